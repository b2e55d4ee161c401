/- Layer 57's comparisons, by the evaluator's rules: part 3. -/
import Derived.Test.YtbfagojdbebikaaGreatDoorSym57b
set_option linter.unusedSimpArgs false
set_option linter.unusedVariables false
namespace Go.Proofs.YtbfagojdbebikaaGreatDoor
open Go Go.Vex Go.RowKit

noncomputable def loop71 : Code := match Tryz.f71.body with
  | some (.seq _ (.seq (.seq _ (.block _ (.loop c))) _)) => c
  | _ => .skip

theorem goes_loop71 {a b : V} {la lb : List Int} {st : St} (ha : Row .i64 st a la) (hb : Row .i64 st b lb) (hlen : la.length = lb.length) (hbig : la.length < 2 ^ 62) : ∀ (m i : Nat) (ts : T V) (k : Nat), la.length - i = m → i ≤ la.length → la.take i = lb.take i →
    cel ts 0 = a → cel ts 1 = b → cel ts 5 = .int .i64 i →
    ∃ e ts' k', Goes Tryz.prog Xk 8 (.code (.loop loop71) ⟨ts, 30, [], none⟩) ⟨st.h, st.n + k⟩ (.code e ⟨ts', 30, [], none⟩ ⟨st.h, st.n + k'⟩) ∧
      (e = .exit 0 ∧ la = lb ∨ e = .ret ∧ (∃ r : Int, cel ts' 4 = .int .i64 r ∧ r ≠ 0) ∧ la ≠ lb) := by
  intro m
  induction m with
  | zero =>
    intro i ts k hm hi htake h0 h1 h5
    have hlt : decide ((i : Int) < la.length) = false := by simp; omega
    have hla' : ∀ n, lenV Tryz.prog 38 a ⟨st.h, n⟩ = some la.length := ha.len' Tryz.underlying38
    have hbody : ∃ ts', Goes Tryz.prog Xk 8 (.code loop71 ⟨ts, 30, [], none⟩) ⟨st.h, st.n + k⟩ (.code (.exit 0) ⟨ts', 30, [], none⟩ ⟨st.h, st.n + k⟩) := by
      unfold loop71 Tryz.f71
      dsimp only
      apply Exists.intro
      repeat apply goes_assoc
      apply goes_seq
      · skip
        apply goes_region
        apply ops_of
        intro self
        simp (decide := true) only [opsV, wantedV, stepV, opV, ev_tmp, evs, builtinV, cel_eq, cel_ne, binV, h0, h5, Option.bind_some, Option.map_some, hla', hlt, if_true]
        rfl
      repeat apply goes_assoc
      apply goes_seq_out (by simp)
      apply goes_cond (t := false)
      · simp (decide := true) only [ev_tmp, cel_eq]
      exact goes_exit
    obtain ⟨ts', hbody⟩ := hbody
    refine ⟨.exit 0, ts', k, goes_loop_out (by simp) hbody, .inl ⟨rfl, ?_⟩⟩
    have hie : i = la.length := by omega
    rw [hie, List.take_length, hlen, List.take_length] at htake
    exact htake
  | succ m ih =>
    intro i ts k hm hi htake h0 h1 h5
    have hlt : decide ((i : Int) < la.length) = true := by simp; omega
    have hia : la[i]? = some la[i] := List.getElem?_eq_getElem (by omega)
    have hib : lb[i]? = some (lb[i]'(by omega)) := List.getElem?_eq_getElem (by omega)
    have hla' : ∀ n, lenV Tryz.prog 38 a ⟨st.h, n⟩ = some la.length := ha.len' Tryz.underlying38
    obtain ⟨l1, o1, n1, c1, rfl, a1, a2, a3⟩ := ha.elem agg3 hia
    obtain ⟨l2, o2, n2, c2, rfl, b1, b2, b3⟩ := hb.elem agg3 hib
    have hc1 : (0 ≤ (i : Int) ∧ (i : Int) < n1) := ⟨by omega, by omega⟩
    have hc2 : (0 ≤ (i : Int) ∧ (i : Int) < n2) := ⟨by omega, by omega⟩
    have hwrap : IntKind.wrap .i64 ((i : Int) + 1) = (i : Int) + 1 := by
      rw [IntWalk.i64_in _ (by omega)]
    have hl1 : ∀ n, loadV Tryz.prog 3 l1 (o1 + i * 1) ⟨st.h, n⟩ = some (.int .i64 la[i]) := fun n => a3
    have hl2 : ∀ n, loadV Tryz.prog 3 l2 (o2 + i * 1) ⟨st.h, n⟩ = some (.int .i64 (lb[i]'(by omega))) := fun n => b3
    by_cases heq : la[i] = lb[i]'(by omega)
    · have hne : decide (la[i] < lb[i]'(by omega)) = false := by simp; omega
      have hgt : decide ((lb[i]'(by omega)) < la[i]) = false := by simp; omega
      have hpre : ∃ ts', Goes Tryz.prog Xk 8 (.code loop71 ⟨ts, 30, [], none⟩) ⟨st.h, st.n + k⟩ (.code .normal ⟨ts', 30, [], none⟩ ⟨st.h, st.n + (k + 18)⟩) ∧ cel ts' 0 = cel ts 0 ∧ cel ts' 1 = cel ts 1 ∧ cel ts' 5 = .int .i64 ((i : Int) + 1) := by
        unfold loop71 Tryz.f71
        dsimp only
        apply Exists.intro
        apply And.intro
        repeat apply goes_assoc
        apply goes_seq
        · skip
          apply goes_region
          apply ops_of
          intro self
          simp (decide := true) only [opsV, wantedV, stepV, opV, ev_tmp, evs, builtinV, cel_eq, cel_ne, h0, h1, h5, Option.bind_some, Option.map_some, Tryz.underlying38, hc1, hc2, size3, if_true, Int.toNat_natCast, hl1, hl2, hla', binV, hlt, ev_int, ev_bool, hwrap, hne, hgt]
          rfl
        repeat apply goes_assoc
        apply goes_seq
        · apply goes_cond (t := true)
          · simp (decide := true) only [ev_tmp, cel_eq]
          · exact goes_skip
        repeat apply goes_assoc
        apply goes_seq
        · apply goes_block (id := 1) (e := .normal)
          repeat apply goes_assoc
          apply goes_seq
          · skip
            apply goes_draw_quiet
            · rfl
            · rfl
            · apply ops_of
              intro self
              simp (decide := true) only [opsV, wantedV, stepV, opV, ev_tmp, evs, builtinV, cel_eq, cel_ne, h0, h1, h5, Option.bind_some, Option.map_some, Tryz.underlying38, hc1, hc2, size3, if_true, Int.toNat_natCast, hl1, hl2, hla', binV, hlt, ev_int, ev_bool, hwrap, hne, hgt]
              rfl
          repeat apply goes_assoc
          apply goes_seq
          · apply goes_cond (t := false)
            · simp (decide := true) only [ev_tmp, cel_eq]
            · exact goes_skip
          repeat apply goes_assoc
          apply goes_seq
          · skip
            apply goes_draw_quiet
            · rfl
            · rfl
            · apply ops_of
              intro self
              simp (decide := true) only [opsV, wantedV, stepV, opV, ev_tmp, evs, builtinV, cel_eq, cel_ne, h0, h1, h5, Option.bind_some, Option.map_some, Tryz.underlying38, hc1, hc2, size3, if_true, Int.toNat_natCast, hl1, hl2, hla', binV, hlt, ev_int, ev_bool, hwrap, hne, hgt]
              rfl
          apply goes_cond (t := false)
          · simp (decide := true) only [ev_tmp, cel_eq]
          · exact goes_skip
        · skip
          apply goes_region
          apply ops_of
          intro self
          simp (decide := true) only [opsV, wantedV, stepV, opV, ev_tmp, evs, builtinV, cel_eq, cel_ne, h0, h1, h5, Option.bind_some, Option.map_some, Tryz.underlying38, hc1, hc2, size3, if_true, Int.toNat_natCast, hl1, hl2, hla', binV, hlt, ev_int, ev_bool, hwrap, hne, hgt]
          rfl
        · simp (decide := true) only [cel_eq, cel_ne, and_self]
      obtain ⟨ts', hgo, q0, q1, q5⟩ := hpre
      obtain ⟨e, ts2, k2, g1, g2⟩ := ih (i + 1) ts' (k + 18) (by omega) (by omega) (by rw [List.take_add_one, List.take_add_one, htake, hia, hib, heq]) (q0.trans h0) (q1.trans h1) (by rw [q5]; norm_cast)
      exact ⟨e, ts2, k2, goes_loop hgo g1, g2⟩
    · rcases Int.lt_or_gt_of_ne heq with hlt2 | hgt2
      · have hne : decide (la[i] < lb[i]'(by omega)) = true := by simp; omega
        have hpre : ∃ ts', Goes Tryz.prog Xk 8 (.code loop71 ⟨ts, 30, [], none⟩) ⟨st.h, st.n + k⟩ (.code .ret ⟨ts', 30, [], none⟩ ⟨st.h, st.n + (k + 9)⟩) ∧ cel ts' 4 = .int .i64 (-1) := by
          unfold loop71 Tryz.f71
          dsimp only
          apply Exists.intro
          apply And.intro
          repeat apply goes_assoc
          apply goes_seq
          · skip
            apply goes_region
            apply ops_of
            intro self
            simp (decide := true) only [opsV, wantedV, stepV, opV, ev_tmp, evs, builtinV, cel_eq, cel_ne, h0, h1, h5, Option.bind_some, Option.map_some, Tryz.underlying38, hc1, hc2, size3, if_true, Int.toNat_natCast, hl1, hl2, hla', binV, hlt, ev_int, ev_bool, hwrap, hne]
            rfl
          repeat apply goes_assoc
          apply goes_seq
          · apply goes_cond (t := true)
            · simp (decide := true) only [ev_tmp, cel_eq]
            · exact goes_skip
          repeat apply goes_assoc
          apply goes_seq_out (by simp)
          apply goes_block (id := 1) (e := .ret)
          repeat apply goes_assoc
          apply goes_seq
          · skip
            apply goes_draw_quiet
            · rfl
            · rfl
            · apply ops_of
              intro self
              simp (decide := true) only [opsV, wantedV, stepV, opV, ev_tmp, evs, builtinV, cel_eq, cel_ne, h0, h1, h5, Option.bind_some, Option.map_some, Tryz.underlying38, hc1, hc2, size3, if_true, Int.toNat_natCast, hl1, hl2, hla', binV, hlt, ev_int, ev_bool, hwrap, hne]
              rfl
          repeat apply goes_assoc
          apply goes_seq_out (by simp)
          apply goes_cond (t := true)
          · simp (decide := true) only [ev_tmp, cel_eq]
          repeat apply goes_assoc
          apply goes_seq
          · skip
            apply goes_region
            apply ops_of
            intro self
            simp (decide := true) only [opsV, wantedV, stepV, opV, ev_tmp, evs, builtinV, cel_eq, cel_ne, h0, h1, h5, Option.bind_some, Option.map_some, Tryz.underlying38, hc1, hc2, size3, if_true, Int.toNat_natCast, hl1, hl2, hla', binV, hlt, ev_int, ev_bool, hwrap, hne]
            rfl
          exact goes_ret
          · simp (decide := true) only [cel_eq, cel_ne]
        obtain ⟨ts', hgo, q4⟩ := hpre
        exact ⟨.ret, ts', k + 9, goes_loop_out (by simp) hgo, .inr ⟨rfl, ⟨-1, q4, by simp⟩, fun e => heq (by simp only [e])⟩⟩
      · have hne : decide (la[i] < lb[i]'(by omega)) = false := by simp; omega
        have hgt : decide ((lb[i]'(by omega)) < la[i]) = true := by simp; omega
        have hpre : ∃ ts', Goes Tryz.prog Xk 8 (.code loop71 ⟨ts, 30, [], none⟩) ⟨st.h, st.n + k⟩ (.code .ret ⟨ts', 30, [], none⟩ ⟨st.h, st.n + (k + 18)⟩) ∧ cel ts' 4 = .int .i64 1 := by
          unfold loop71 Tryz.f71
          dsimp only
          apply Exists.intro
          apply And.intro
          repeat apply goes_assoc
          apply goes_seq
          · skip
            apply goes_region
            apply ops_of
            intro self
            simp (decide := true) only [opsV, wantedV, stepV, opV, ev_tmp, evs, builtinV, cel_eq, cel_ne, h0, h1, h5, Option.bind_some, Option.map_some, Tryz.underlying38, hc1, hc2, size3, if_true, Int.toNat_natCast, hl1, hl2, hla', binV, hlt, ev_int, ev_bool, hwrap, hne, hgt]
            rfl
          repeat apply goes_assoc
          apply goes_seq
          · apply goes_cond (t := true)
            · simp (decide := true) only [ev_tmp, cel_eq]
            · exact goes_skip
          repeat apply goes_assoc
          apply goes_seq_out (by simp)
          apply goes_block (id := 1) (e := .ret)
          repeat apply goes_assoc
          apply goes_seq
          · skip
            apply goes_draw_quiet
            · rfl
            · rfl
            · apply ops_of
              intro self
              simp (decide := true) only [opsV, wantedV, stepV, opV, ev_tmp, evs, builtinV, cel_eq, cel_ne, h0, h1, h5, Option.bind_some, Option.map_some, Tryz.underlying38, hc1, hc2, size3, if_true, Int.toNat_natCast, hl1, hl2, hla', binV, hlt, ev_int, ev_bool, hwrap, hne, hgt]
              rfl
          repeat apply goes_assoc
          apply goes_seq
          · apply goes_cond (t := false)
            · simp (decide := true) only [ev_tmp, cel_eq]
            · exact goes_skip
          repeat apply goes_assoc
          apply goes_seq
          · skip
            apply goes_draw_quiet
            · rfl
            · rfl
            · apply ops_of
              intro self
              simp (decide := true) only [opsV, wantedV, stepV, opV, ev_tmp, evs, builtinV, cel_eq, cel_ne, h0, h1, h5, Option.bind_some, Option.map_some, Tryz.underlying38, hc1, hc2, size3, if_true, Int.toNat_natCast, hl1, hl2, hla', binV, hlt, ev_int, ev_bool, hwrap, hne, hgt]
              rfl
          apply goes_cond (t := true)
          · simp (decide := true) only [ev_tmp, cel_eq]
          repeat apply goes_assoc
          apply goes_seq
          · skip
            apply goes_region
            apply ops_of
            intro self
            simp (decide := true) only [opsV, wantedV, stepV, opV, ev_tmp, evs, builtinV, cel_eq, cel_ne, h0, h1, h5, Option.bind_some, Option.map_some, Tryz.underlying38, hc1, hc2, size3, if_true, Int.toNat_natCast, hl1, hl2, hla', binV, hlt, ev_int, ev_bool, hwrap, hne, hgt]
            rfl
          exact goes_ret
          · simp (decide := true) only [cel_eq, cel_ne]
        obtain ⟨ts', hgo, q4⟩ := hpre
        exact ⟨.ret, ts', k + 18, goes_loop_out (by simp) hgo, .inr ⟨rfl, ⟨1, q4, by simp⟩, fun e => heq (by simp only [e])⟩⟩

noncomputable def loop40 : Code := match Tryz.f40.body with
  | some (.seq _ (.seq _ (.seq (.seq _ (.block _ (.loop c))) _))) => c
  | _ => .skip

theorem goes_loop40 {a b : V} {la lb : List Int} {st : St} (ha : Row .i64 st a la) (hb : Row .i64 st b lb) (hlen : la.length = lb.length) (hbig : la.length < 2 ^ 62) : ∀ (m i : Nat) (ts : T V) (k : Nat), la.length - i = m → i ≤ la.length → la.take i = lb.take i →
    cel ts 0 = a → cel ts 1 = b → cel ts 5 = .int .i64 i →
    ∃ e ts' k', Goes Tryz.prog Xk 8 (.code (.loop loop40) ⟨ts, 26, [], none⟩) ⟨st.h, st.n + k⟩ (.code e ⟨ts', 26, [], none⟩ ⟨st.h, st.n + k'⟩) ∧
      (e = .exit 0 ∧ la = lb ∨ e = .ret ∧ cel ts' 4 = .bool false ∧ la ≠ lb) := by
  intro m
  induction m with
  | zero =>
    intro i ts k hm hi htake h0 h1 h5
    have hlt : decide ((i : Int) < la.length) = false := by simp; omega
    have hla' : ∀ n, lenV Tryz.prog 37 a ⟨st.h, n⟩ = some la.length := ha.len' Tryz.underlying37
    have hbody : ∃ ts', Goes Tryz.prog Xk 8 (.code loop40 ⟨ts, 26, [], none⟩) ⟨st.h, st.n + k⟩ (.code (.exit 0) ⟨ts', 26, [], none⟩ ⟨st.h, st.n + k⟩) := by
      unfold loop40 Tryz.f40
      dsimp only
      apply Exists.intro
      repeat apply goes_assoc
      apply goes_seq
      · skip
        apply goes_region
        apply ops_of
        intro self
        simp (decide := true) only [opsV, wantedV, stepV, opV, ev_tmp, evs, builtinV, cel_eq, cel_ne, binV, h0, h5, Option.bind_some, Option.map_some, hla', hlt, if_true]
        rfl
      repeat apply goes_assoc
      apply goes_seq_out (by simp)
      apply goes_cond (t := false)
      · simp (decide := true) only [ev_tmp, cel_eq]
      exact goes_exit
    obtain ⟨ts', hbody⟩ := hbody
    refine ⟨.exit 0, ts', k, goes_loop_out (by simp) hbody, .inl ⟨rfl, ?_⟩⟩
    have hie : i = la.length := by omega
    rw [hie, List.take_length, hlen, List.take_length] at htake
    exact htake
  | succ m ih =>
    intro i ts k hm hi htake h0 h1 h5
    have hlt : decide ((i : Int) < la.length) = true := by simp; omega
    have hia : la[i]? = some la[i] := List.getElem?_eq_getElem (by omega)
    have hib : lb[i]? = some (lb[i]'(by omega)) := List.getElem?_eq_getElem (by omega)
    have hla' : ∀ n, lenV Tryz.prog 37 a ⟨st.h, n⟩ = some la.length := ha.len' Tryz.underlying37
    obtain ⟨l1, o1, n1, c1, rfl, a1, a2, a3⟩ := ha.elem agg3 hia
    obtain ⟨l2, o2, n2, c2, rfl, b1, b2, b3⟩ := hb.elem agg3 hib
    have hc1 : (0 ≤ (i : Int) ∧ (i : Int) < n1) := ⟨by omega, by omega⟩
    have hc2 : (0 ≤ (i : Int) ∧ (i : Int) < n2) := ⟨by omega, by omega⟩
    have hwrap : IntKind.wrap .i64 ((i : Int) + 1) = (i : Int) + 1 := by
      rw [IntWalk.i64_in _ (by omega)]
    have hl1 : ∀ n, loadV Tryz.prog 3 l1 (o1 + i * 1) ⟨st.h, n⟩ = some (.int .i64 la[i]) := fun n => a3
    have hl2 : ∀ n, loadV Tryz.prog 3 l2 (o2 + i * 1) ⟨st.h, n⟩ = some (.int .i64 (lb[i]'(by omega))) := fun n => b3
    by_cases heq : la[i] = lb[i]'(by omega)
    · have hne : (la[i] != lb[i]'(by omega)) = false := by simp [heq]
      have hpre : ∃ ts', Goes Tryz.prog Xk 8 (.code loop40 ⟨ts, 26, [], none⟩) ⟨st.h, st.n + k⟩ (.code .normal ⟨ts', 26, [], none⟩ ⟨st.h, st.n + (k + 9)⟩) ∧ cel ts' 0 = cel ts 0 ∧ cel ts' 1 = cel ts 1 ∧ cel ts' 5 = .int .i64 ((i : Int) + 1) := by
        unfold loop40 Tryz.f40
        dsimp only
        apply Exists.intro
        apply And.intro
        repeat apply goes_assoc
        apply goes_seq
        · skip
          apply goes_region
          apply ops_of
          intro self
          simp (decide := true) only [opsV, wantedV, stepV, opV, ev_tmp, evs, builtinV, cel_eq, cel_ne, h0, h1, h5, Option.bind_some, Option.map_some, Tryz.underlying37, hc1, hc2, size3, if_true, Int.toNat_natCast, hl1, hl2, hla', binV, hlt, ev_int, ev_bool, hwrap, hne]
          rfl
        repeat apply goes_assoc
        apply goes_seq
        · apply goes_cond (t := true)
          · simp (decide := true) only [ev_tmp, cel_eq]
          · exact goes_skip
        repeat apply goes_assoc
        apply goes_seq
        · apply goes_block (id := 1) (e := .normal)
          repeat apply goes_assoc
          apply goes_seq
          · skip
            apply goes_draw_quiet
            · rfl
            · rfl
            · apply ops_of
              intro self
              simp (decide := true) only [opsV, wantedV, stepV, opV, ev_tmp, evs, builtinV, cel_eq, cel_ne, h0, h1, h5, Option.bind_some, Option.map_some, Tryz.underlying37, hc1, hc2, size3, if_true, Int.toNat_natCast, hl1, hl2, hla', binV, hlt, ev_int, ev_bool, hwrap, hne]
              rfl
          apply goes_cond (t := false)
          · simp (decide := true) only [ev_tmp, cel_eq]
          · exact goes_skip
        · skip
          apply goes_region
          apply ops_of
          intro self
          simp (decide := true) only [opsV, wantedV, stepV, opV, ev_tmp, evs, builtinV, cel_eq, cel_ne, h0, h1, h5, Option.bind_some, Option.map_some, Tryz.underlying37, hc1, hc2, size3, if_true, Int.toNat_natCast, hl1, hl2, hla', binV, hlt, ev_int, ev_bool, hwrap, hne]
          rfl
        · simp (decide := true) only [cel_eq, cel_ne, and_self]
      obtain ⟨ts', hgo, q0, q1, q5⟩ := hpre
      obtain ⟨e, ts2, k2, g1, g2⟩ := ih (i + 1) ts' (k + 9) (by omega) (by omega) (by rw [List.take_add_one, List.take_add_one, htake, hia, hib, heq]) (q0.trans h0) (q1.trans h1) (by rw [q5]; norm_cast)
      exact ⟨e, ts2, k2, goes_loop hgo g1, g2⟩
    · have hne : (la[i] != lb[i]'(by omega)) = true := by simp [heq]
      have hpre : ∃ ts', Goes Tryz.prog Xk 8 (.code loop40 ⟨ts, 26, [], none⟩) ⟨st.h, st.n + k⟩ (.code .ret ⟨ts', 26, [], none⟩ ⟨st.h, st.n + (k + 9)⟩) ∧ cel ts' 4 = .bool false := by
        unfold loop40 Tryz.f40
        dsimp only
        apply Exists.intro
        apply And.intro
        repeat apply goes_assoc
        apply goes_seq
        · skip
          apply goes_region
          apply ops_of
          intro self
          simp (decide := true) only [opsV, wantedV, stepV, opV, ev_tmp, evs, builtinV, cel_eq, cel_ne, h0, h1, h5, Option.bind_some, Option.map_some, Tryz.underlying37, hc1, hc2, size3, if_true, Int.toNat_natCast, hl1, hl2, hla', binV, hlt, ev_int, ev_bool, hwrap, hne]
          rfl
        repeat apply goes_assoc
        apply goes_seq
        · apply goes_cond (t := true)
          · simp (decide := true) only [ev_tmp, cel_eq]
          · exact goes_skip
        repeat apply goes_assoc
        apply goes_seq_out (by simp)
        apply goes_block (id := 1) (e := .ret)
        repeat apply goes_assoc
        apply goes_seq
        · skip
          apply goes_draw_quiet
          · rfl
          · rfl
          · apply ops_of
            intro self
            simp (decide := true) only [opsV, wantedV, stepV, opV, ev_tmp, evs, builtinV, cel_eq, cel_ne, h0, h1, h5, Option.bind_some, Option.map_some, Tryz.underlying37, hc1, hc2, size3, if_true, Int.toNat_natCast, hl1, hl2, hla', binV, hlt, ev_int, ev_bool, hwrap, hne]
            rfl
        apply goes_cond (t := true)
        · simp (decide := true) only [ev_tmp, cel_eq]
        repeat apply goes_assoc
        apply goes_seq
        · skip
          apply goes_region
          apply ops_of
          intro self
          simp (decide := true) only [opsV, wantedV, stepV, opV, ev_tmp, evs, builtinV, cel_eq, cel_ne, h0, h1, h5, Option.bind_some, Option.map_some, Tryz.underlying37, hc1, hc2, size3, if_true, Int.toNat_natCast, hl1, hl2, hla', binV, hlt, ev_int, ev_bool, hwrap, hne]
          rfl
        exact goes_ret
        · simp (decide := true) only [cel_eq, cel_ne]
      obtain ⟨ts', hgo, q4⟩ := hpre
      exact ⟨.ret, ts', k + 9, goes_loop_out (by simp) hgo, .inr ⟨rfl, q4, fun e => heq (by simp only [e])⟩⟩

end Go.Proofs.YtbfagojdbebikaaGreatDoor
