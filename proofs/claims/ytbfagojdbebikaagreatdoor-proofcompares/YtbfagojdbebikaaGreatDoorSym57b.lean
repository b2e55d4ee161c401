/- Layer 57's comparisons, by the evaluator's rules: part 2. -/
import Derived.Test.YtbfagojdbebikaaGreatDoorSym57
set_option linter.unusedSimpArgs false
set_option linter.unusedVariables false
namespace Go.Proofs.YtbfagojdbebikaaGreatDoor
open Go Go.Vex Go.RowKit

noncomputable def loop38 : Code := match Tryz.f38.body with
  | some (.seq _ (.seq _ (.seq (.seq _ (.block _ (.loop c))) _))) => c
  | _ => .skip

theorem goes_loop38 {a b : V} {la lb : List Int} {st : St} (ha : Row .i64 st a la) (hb : Row .i64 st b lb) (hlen : la.length = lb.length) (hbig : la.length < 2 ^ 62) : ∀ (m i : Nat) (ts : T V) (k : Nat), la.length - i = m → i ≤ la.length → la.take i = lb.take i →
    cel ts 0 = a → cel ts 1 = b → cel ts 12 = .int .i64 la.length → cel ts 13 = .int .i64 i →
    ∃ e ts' k', Goes Tryz.prog Xk 8 (.code (.loop loop38) ⟨ts, 26, [], none⟩) ⟨st.h, st.n + k⟩ (.code e ⟨ts', 26, [], none⟩ ⟨st.h, st.n + k'⟩) ∧
      (e = .exit 0 ∧ la = lb ∨ e = .ret ∧ cel ts' 4 = .bool false ∧ la ≠ lb) := by
  intro m
  induction m with
  | zero =>
    intro i ts k hm hi htake h0 h1 h12 h13
    have hlt : decide ((i : Int) < la.length) = false := by simp; omega
    have hbody : ∃ ts', Goes Tryz.prog Xk 8 (.code loop38 ⟨ts, 26, [], none⟩) ⟨st.h, st.n + k⟩ (.code (.exit 0) ⟨ts', 26, [], none⟩ ⟨st.h, st.n + k⟩) := by
      unfold loop38 Tryz.f38
      dsimp only
      refine ⟨?_, goes_seq (goes_region (ops_of fun self => ?_)) (goes_seq_out (by simp) (goes_cond (t := false) ?_ goes_exit))⟩
      rotate_left
      · simp (decide := true) only [opsV, wantedV, stepV, opV, ev_tmp, binV, h12, h13, Option.bind_some, Option.map_some, hlt]
        rfl
      · simp (decide := true) only [ev_tmp, cel_eq]
    obtain ⟨ts', hbody⟩ := hbody
    refine ⟨.exit 0, ts', k, goes_loop_out (by simp) hbody, .inl ⟨rfl, ?_⟩⟩
    have hie : i = la.length := by omega
    rw [hie, List.take_length, hlen, List.take_length] at htake
    exact htake
  | succ m ih =>
    intro i ts k hm hi htake h0 h1 h12 h13
    have hlt : decide ((i : Int) < la.length) = true := by simp; omega
    have hia : la[i]? = some la[i] := List.getElem?_eq_getElem (by omega)
    have hib : lb[i]? = some (lb[i]'(by omega)) := List.getElem?_eq_getElem (by omega)
    obtain ⟨l1, o1, n1, c1, rfl, a1, a2, a3⟩ := ha.elem agg3 hia
    obtain ⟨l2, o2, n2, c2, rfl, b1, b2, b3⟩ := hb.elem agg3 hib
    have hc1 : (0 ≤ (i : Int) ∧ (i : Int) < n1) := ⟨by omega, by omega⟩
    have hc2 : (0 ≤ (i : Int) ∧ (i : Int) < n2) := ⟨by omega, by omega⟩
    have hwrap : IntKind.wrap .i64 ((i : Int) + 1) = (i : Int) + 1 := by
      rw [IntWalk.i64_in _ (by omega)]
    have hl1 : ∀ n, loadV Tryz.prog 3 l1 (o1 + i * 1) ⟨st.h, n⟩ = some (.int .i64 la[i]) := fun n => a3
    have hl2 : ∀ n, loadV Tryz.prog 3 l2 (o2 + i * 1) ⟨st.h, n⟩ = some (.int .i64 (lb[i]'(by omega))) := fun n => b3
    by_cases heq : la[i] = lb[i]'(by omega)
    · have hne : (la[i] != lb[i]'(by omega)) = false := by simp [heq]
      have hpre : ∃ ts', Goes Tryz.prog Xk 8 (.code loop38 ⟨ts, 26, [], none⟩) ⟨st.h, st.n + k⟩ (.code .normal ⟨ts', 26, [], none⟩ ⟨st.h, st.n + (k + 9)⟩) ∧ cel ts' 0 = cel ts 0 ∧ cel ts' 1 = cel ts 1 ∧ cel ts' 12 = cel ts 12 ∧ cel ts' 13 = .int .i64 ((i : Int) + 1) := by
        unfold loop38 Tryz.f38
        dsimp only
        apply Exists.intro
        apply And.intro
        apply goes_seq
        · apply goes_region
          apply ops_of
          intro self
          simp (decide := true) only [opsV, wantedV, stepV, opV, ev_tmp, cel_eq, cel_ne, h0, h1, h12, h13, Option.bind_some, Option.map_some, Tryz.underlying37, hc1, hc2, size3, if_true, Int.toNat_natCast, hl1, hl2, binV, hne, hlt, ev_int, ev_bool, hwrap]
          rfl
        apply goes_seq
        · apply goes_cond (t := true)
          · simp (decide := true) only [ev_tmp, cel_eq]
          · exact goes_skip
        apply goes_seq
        · apply goes_block (id := 1) (e := .normal)
          apply goes_seq
          · apply goes_region
            apply ops_of
            intro self
            simp (decide := true) only [opsV, wantedV, stepV, opV, ev_tmp, cel_eq, cel_ne, h0, h1, h12, h13, Option.bind_some, Option.map_some, Tryz.underlying37, hc1, hc2, size3, if_true, Int.toNat_natCast, hl1, hl2, binV, hne, hlt, ev_int, ev_bool, hwrap]
            rfl
          apply goes_seq
          · apply goes_draw_quiet
            · rfl
            · rfl
            · apply ops_of
              intro self
              simp (decide := true) only [opsV, wantedV, stepV, opV, ev_tmp, cel_eq, cel_ne, h0, h1, h12, h13, Option.bind_some, Option.map_some, Tryz.underlying37, hc1, hc2, size3, if_true, Int.toNat_natCast, hl1, hl2, binV, hne, hlt, ev_int, ev_bool, hwrap]
              rfl
          apply goes_cond (t := false)
          · simp (decide := true) only [ev_tmp, cel_eq]
          · exact goes_skip

        · apply goes_region
          apply ops_of
          intro self
          simp (decide := true) only [opsV, wantedV, stepV, opV, ev_tmp, cel_eq, cel_ne, h0, h1, h12, h13, Option.bind_some, Option.map_some, Tryz.underlying37, hc1, hc2, size3, if_true, Int.toNat_natCast, hl1, hl2, binV, hne, hlt, ev_int, ev_bool, hwrap]
          rfl
        · simp (decide := true) only [cel_eq, cel_ne, and_self]
      obtain ⟨ts', hgo, q0, q1, q12, q13⟩ := hpre
      obtain ⟨e, ts2, k2, g1, g2⟩ := ih (i + 1) ts' (k + 9) (by omega) (by omega) (by rw [List.take_add_one, List.take_add_one, htake, hia, hib, heq]) (q0.trans h0) (q1.trans h1) (q12.trans h12) (by rw [q13]; norm_cast)
      exact ⟨e, ts2, k2, goes_loop hgo g1, g2⟩
    · have hne : (la[i] != lb[i]'(by omega)) = true := by simp [heq]
      have hpre : ∃ ts', Goes Tryz.prog Xk 8 (.code loop38 ⟨ts, 26, [], none⟩) ⟨st.h, st.n + k⟩ (.code .ret ⟨ts', 26, [], none⟩ ⟨st.h, st.n + (k + 9)⟩) ∧ cel ts' 4 = .bool false := by
        unfold loop38 Tryz.f38
        dsimp only
        apply Exists.intro
        apply And.intro
        apply goes_seq
        · apply goes_region
          apply ops_of
          intro self
          simp (decide := true) only [opsV, wantedV, stepV, opV, ev_tmp, cel_eq, cel_ne, h0, h1, h12, h13, Option.bind_some, Option.map_some, Tryz.underlying37, hc1, hc2, size3, if_true, Int.toNat_natCast, hl1, hl2, binV, hne, hlt, ev_int, ev_bool, hwrap]
          rfl
        apply goes_seq
        · apply goes_cond (t := true)
          · simp (decide := true) only [ev_tmp, cel_eq]
          · exact goes_skip
        apply goes_seq_out (by simp)
        apply goes_block (id := 1) (e := .ret)
        apply goes_seq
        · apply goes_region
          apply ops_of
          intro self
          simp (decide := true) only [opsV, wantedV, stepV, opV, ev_tmp, cel_eq, cel_ne, h0, h1, h12, h13, Option.bind_some, Option.map_some, Tryz.underlying37, hc1, hc2, size3, if_true, Int.toNat_natCast, hl1, hl2, binV, hne, hlt, ev_int, ev_bool, hwrap]
          rfl
        apply goes_seq
        · apply goes_draw_quiet
          · rfl
          · rfl
          · apply ops_of
            intro self
            simp (decide := true) only [opsV, wantedV, stepV, opV, ev_tmp, cel_eq, cel_ne, h0, h1, h12, h13, Option.bind_some, Option.map_some, Tryz.underlying37, hc1, hc2, size3, if_true, Int.toNat_natCast, hl1, hl2, binV, hne, hlt, ev_int, ev_bool, hwrap]
            rfl
        · apply goes_cond (t := true)
          · simp (decide := true) only [ev_tmp, cel_eq]
          · apply goes_seq
            · apply goes_region
              apply ops_of
              intro self
              simp (decide := true) only [opsV, wantedV, stepV, opV, ev_tmp, cel_eq, cel_ne, h0, h1, h12, h13, Option.bind_some, Option.map_some, Tryz.underlying37, hc1, hc2, size3, if_true, Int.toNat_natCast, hl1, hl2, binV, hne, hlt, ev_int, ev_bool, hwrap]
              rfl
            · exact goes_ret

        · simp (decide := true) only [cel_eq, cel_ne]
      obtain ⟨ts', hgo, q4⟩ := hpre
      exact ⟨.ret, ts', k + 9, goes_loop_out (by simp) hgo, .inr ⟨rfl, q4, fun e => heq (by simp only [e])⟩⟩
theorem goes38 {a b : V} {la lb : List Int} {st : St} (ha : Row .i64 st a la) (hb : Row .i64 st b lb) (hbig : la.length < 2 ^ 62) :
    ∃ k, Goes Tryz.prog Xk 8 (.call 38 [a, b]) st (.val (.bool (decide (la = lb))) ⟨st.h, st.n + k⟩) := by
  have h0 : cel (argsT .leaf 0 [a, b]) 0 = a := by rw [cel_args]; rfl
  have h1 : cel (argsT .leaf 0 [a, b]) 1 = b := by rw [cel_args]; rfl
  have hfin : ∀ (e : Ex) (ts' : T V) (k : Nat) (r : Bool), (∀ i, e ≠ .exit i) → cel ts' 4 = .bool r → Goes Tryz.prog Xk 8 (.code ((Tryz.f38.body).getD .skip) ⟨argsT .leaf 0 [a, b], 26, [], none⟩) st (.code e ⟨ts', 26, [], none⟩ ⟨st.h, st.n + k⟩) →
      Goes Tryz.prog Xk 8 (.call 38 [a, b]) st (.val (.bool r) ⟨st.h, st.n + k⟩) := fun e ts' k r he hr hg =>
    goes_call (vs := [.bool r]) Tryz.func38 rfl hg he rfl (by rw [← hr]; rfl)
  by_cases hlen : la.length = lb.length
  · have hne : ((la.length : Int) != lb.length) = false := by simp [hlen]
    have hpre : ∃ ts', (∀ o, Goes Tryz.prog Xk 8 (.code (.seq (.block 0 (.loop loop38)) (.seq (.region 9 #[{ dst := some 4, op := Op.assign (Operand.const (Value.bool true)), type := 4, pos := "slices.go:29", after := #[], guard := none }] false) .ret)) ⟨ts', 26, [], none⟩) st o →
        Goes Tryz.prog Xk 8 (.code ((Tryz.f38.body).getD .skip) ⟨argsT .leaf 0 [a, b], 26, [], none⟩) st o) ∧
        cel ts' 0 = a ∧ cel ts' 1 = b ∧ cel ts' 12 = .int .i64 la.length ∧ cel ts' 13 = .int .i64 0 := by
      apply Exists.intro
      apply And.intro
      · intro o ho
        unfold loop38 Tryz.f38 at ho
        unfold Tryz.f38
        dsimp only [Option.getD] at ho ⊢
        apply goes_seq
        · 
          apply goes_region
          apply ops_of
          intro self
          simp (decide := true) only [opsV, wantedV, stepV, opV, ev_tmp, evs, builtinV, cel_eq, cel_ne, cel_args, binV, ev_int, ev_bool, h0, h1, Option.bind_some, Option.map_some, ha.len Tryz.underlying37, hb.len Tryz.underlying37, if_true, hne]
          rfl
        apply goes_assoc
        apply goes_seq
        · 
          apply goes_region
          apply ops_of
          intro self
          simp (decide := true) only [opsV, wantedV, stepV, opV, ev_tmp, evs, builtinV, cel_eq, cel_ne, cel_args, binV, ev_int, ev_bool, h0, h1, Option.bind_some, Option.map_some, ha.len Tryz.underlying37, hb.len Tryz.underlying37, if_true, hne]
          rfl
        apply goes_seq
        · apply goes_cond (t := false)
          · simp (decide := true) only [ev_tmp, cel_eq]
          · exact goes_skip
        apply goes_assoc
        apply goes_seq
        · 
          apply goes_region
          apply ops_of
          intro self
          simp (decide := true) only [opsV, wantedV, stepV, opV, ev_tmp, evs, builtinV, cel_eq, cel_ne, cel_args, binV, ev_int, ev_bool, h0, h1, Option.bind_some, Option.map_some, ha.len Tryz.underlying37, hb.len Tryz.underlying37, if_true, hne]
          rfl
        exact ho
      · simp (decide := true) only [cel_eq, cel_ne, h0, h1, and_self]
    obtain ⟨ts1, g1, q0, q1, q12, q13⟩ := hpre
    obtain ⟨e, ts2, k2, g2, g3⟩ := goes_loop38 ha hb hlen hbig (la.length - 0) 0 ts1 0 rfl (Nat.zero_le _) rfl q0 q1 q12 q13
    rcases g3 with ⟨rfl, heq⟩ | ⟨rfl, h4, hne2⟩
    · refine ⟨k2, ?_⟩
      rw [decide_eq_true heq]
      refine hfin .ret (putD ts2 26 (some 4) (.bool true)) k2 true (by simp) (cel_eq rfl) (g1 _ ?_)
      refine goes_seq (goes_block (id := 0) (e := .exit 0) g2) ?_
      refine goes_seq (goes_region (ops_of fun self => rfl)) goes_ret
    · refine ⟨k2, ?_⟩
      rw [decide_eq_false hne2]
      exact hfin .ret ts2 k2 false (by simp) h4 (g1 _ (goes_seq_out (by simp) (goes_block (id := 0) (e := .ret) g2)))
  · have hne : ((la.length : Int) != lb.length) = true := by simp; omega
    refine ⟨0, ?_⟩
    rw [decide_eq_false (fun e => hlen (by rw [e]))]
    have hpre : ∃ ts', cel ts' 4 = .bool false ∧ Goes Tryz.prog Xk 8 (.code ((Tryz.f38.body).getD .skip) ⟨argsT .leaf 0 [a, b], 26, [], none⟩) st (.code .ret ⟨ts', 26, [], none⟩ st) := by
      apply Exists.intro
      rw [and_comm]
      apply And.intro
      · unfold Tryz.f38
        dsimp only [Option.getD]
        apply goes_seq
        · 
          apply goes_region
          apply ops_of
          intro self
          simp (decide := true) only [opsV, wantedV, stepV, opV, ev_tmp, evs, builtinV, cel_eq, cel_ne, cel_args, binV, ev_int, ev_bool, h0, h1, Option.bind_some, Option.map_some, ha.len Tryz.underlying37, hb.len Tryz.underlying37, if_true, hne]
          rfl
        apply goes_assoc
        apply goes_seq
        · 
          apply goes_region
          apply ops_of
          intro self
          simp (decide := true) only [opsV, wantedV, stepV, opV, ev_tmp, evs, builtinV, cel_eq, cel_ne, cel_args, binV, ev_int, ev_bool, h0, h1, Option.bind_some, Option.map_some, ha.len Tryz.underlying37, hb.len Tryz.underlying37, if_true, hne]
          rfl
        apply goes_seq_out (by simp)
        apply goes_cond (t := true)
        · simp (decide := true) only [ev_tmp, cel_eq]
        apply goes_seq
        · 
          apply goes_region
          apply ops_of
          intro self
          simp (decide := true) only [opsV, wantedV, stepV, opV, ev_tmp, evs, builtinV, cel_eq, cel_ne, cel_args, binV, ev_int, ev_bool, h0, h1, Option.bind_some, Option.map_some, ha.len Tryz.underlying37, hb.len Tryz.underlying37, if_true, hne]
          rfl
        exact goes_ret
      · simp (decide := true) only [cel_eq, cel_ne]
    obtain ⟨ts', h4, g1⟩ := hpre
    exact hfin .ret ts' 0 false (by simp) h4 g1
end Go.Proofs.YtbfagojdbebikaaGreatDoor
