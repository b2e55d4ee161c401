/- Layer 57's comparisons, by the evaluator's rules: part 4. -/
import Derived.Test.YtbfagojdbebikaaGreatDoorSym57c
set_option linter.unusedSimpArgs false
set_option linter.unusedVariables false
namespace Go.Proofs.YtbfagojdbebikaaGreatDoor
open Go Go.Vex Go.RowKit

theorem goes40 {a b : V} {la lb : List Int} {st : St} (ha : Row .i64 st a la) (hb : Row .i64 st b lb) (hbig : la.length < 2 ^ 62) :
    ∃ k, Goes Tryz.prog Xk 8 (.call 40 [a, b]) st (.val (.bool (decide (la = lb))) ⟨st.h, st.n + k⟩) := by
  have h0 : cel (argsT .leaf 0 [a, b]) 0 = a := by rw [cel_args]; rfl
  have h1 : cel (argsT .leaf 0 [a, b]) 1 = b := by rw [cel_args]; rfl
  have hfin : ∀ (ts' : T V) (k : Nat) (r : Bool), cel ts' 4 = .bool r → Goes Tryz.prog Xk 8 (.code ((Tryz.f40.body).getD .skip) ⟨argsT .leaf 0 [a, b], 26, [], none⟩) st (.code .ret ⟨ts', 26, [], none⟩ ⟨st.h, st.n + k⟩) →
      Goes Tryz.prog Xk 8 (.call 40 [a, b]) st (.val (.bool r) ⟨st.h, st.n + k⟩) := fun ts' k r hr hg =>
    goes_call (vs := [.bool r]) Tryz.func40 rfl hg (by simp) rfl (by rw [← hr]; rfl)
  by_cases hlen : la.length = lb.length
  · have hne : ((la.length : Int) != lb.length) = false := by simp [hlen]
    have hpre : ∃ ts', (∀ o, Goes Tryz.prog Xk 8 (.code (.seq (.block 0 (.loop loop40)) (.seq (.region 8 #[{ dst := some 4, op := Op.assign (Operand.const (Value.bool true)), type := 4, pos := "ref.go:283", after := #[], guard := none }] false) .ret)) ⟨ts', 26, [], none⟩) st o →
        Goes Tryz.prog Xk 8 (.code ((Tryz.f40.body).getD .skip) ⟨argsT .leaf 0 [a, b], 26, [], none⟩) st o) ∧
        cel ts' 0 = a ∧ cel ts' 1 = b ∧ cel ts' 5 = .int .i64 0 := by
      apply Exists.intro
      apply And.intro
      · intro o ho
        unfold loop40 Tryz.f40 at ho
        unfold Tryz.f40
        dsimp only [Option.getD] at ho ⊢
        repeat apply goes_assoc
        apply goes_seq
        · skip
          apply goes_region
          apply ops_of
          intro self
          simp (decide := true) only [opsV, wantedV, stepV, opV, ev_tmp, evs, builtinV, cel_eq, cel_ne, cel_args, binV, ev_int, ev_bool, h0, h1, Option.bind_some, Option.map_some, ha.len Tryz.underlying37, hb.len Tryz.underlying37, if_true, hne]
          rfl
        repeat apply goes_assoc
        apply goes_seq
        · skip
          apply goes_region
          apply ops_of
          intro self
          simp (decide := true) only [opsV, wantedV, stepV, opV, ev_tmp, evs, builtinV, cel_eq, cel_ne, cel_args, binV, ev_int, ev_bool, h0, h1, Option.bind_some, Option.map_some, ha.len Tryz.underlying37, hb.len Tryz.underlying37, if_true, hne]
          rfl
        repeat apply goes_assoc
        apply goes_seq
        · apply goes_cond (t := false)
          · simp (decide := true) only [ev_tmp, cel_eq]
          · exact goes_skip
        repeat apply goes_assoc
        apply goes_seq
        · skip
          apply goes_region
          apply ops_of
          intro self
          simp (decide := true) only [opsV, wantedV, stepV, opV, ev_tmp, evs, builtinV, cel_eq, cel_ne, cel_args, binV, ev_int, ev_bool, h0, h1, Option.bind_some, Option.map_some, ha.len Tryz.underlying37, hb.len Tryz.underlying37, if_true, hne]
          rfl
        exact ho
      · simp (decide := true) only [cel_eq, cel_ne, h0, h1, and_self]
    obtain ⟨ts1, g1, q0, q1, q5⟩ := hpre
    obtain ⟨e, ts2, k2, g2, g3⟩ := goes_loop40 ha hb hlen hbig (la.length - 0) 0 ts1 0 rfl (Nat.zero_le _) rfl q0 q1 q5
    rcases g3 with ⟨rfl, heq⟩ | ⟨rfl, h4, hne2⟩
    · refine ⟨k2, ?_⟩
      rw [decide_eq_true heq]
      refine hfin (putD ts2 26 (some 4) (.bool true)) k2 true (cel_eq rfl) (g1 _ ?_)
      refine goes_seq (goes_block (id := 0) (e := .exit 0) g2) ?_
      refine goes_seq (goes_region (ops_of fun self => rfl)) goes_ret
    · refine ⟨k2, ?_⟩
      rw [decide_eq_false hne2]
      exact hfin ts2 k2 false h4 (g1 _ (goes_seq_out (by simp) (goes_block (id := 0) (e := .ret) g2)))
  · have hne : ((la.length : Int) != lb.length) = true := by simp; omega
    refine ⟨0, ?_⟩
    rw [decide_eq_false (fun e => hlen (by rw [e]))]
    have hpre : ∃ ts', cel ts' 4 = .bool false ∧ Goes Tryz.prog Xk 8 (.code ((Tryz.f40.body).getD .skip) ⟨argsT .leaf 0 [a, b], 26, [], none⟩) st (.code .ret ⟨ts', 26, [], none⟩ st) := by
      apply Exists.intro
      rw [and_comm]
      apply And.intro
      · unfold Tryz.f40
        dsimp only [Option.getD]
        repeat apply goes_assoc
        apply goes_seq
        · skip
          apply goes_region
          apply ops_of
          intro self
          simp (decide := true) only [opsV, wantedV, stepV, opV, ev_tmp, evs, builtinV, cel_eq, cel_ne, cel_args, binV, ev_int, ev_bool, h0, h1, Option.bind_some, Option.map_some, ha.len Tryz.underlying37, hb.len Tryz.underlying37, if_true, hne]
          rfl
        repeat apply goes_assoc
        apply goes_seq
        · skip
          apply goes_region
          apply ops_of
          intro self
          simp (decide := true) only [opsV, wantedV, stepV, opV, ev_tmp, evs, builtinV, cel_eq, cel_ne, cel_args, binV, ev_int, ev_bool, h0, h1, Option.bind_some, Option.map_some, ha.len Tryz.underlying37, hb.len Tryz.underlying37, if_true, hne]
          rfl
        repeat apply goes_assoc
        apply goes_seq_out (by simp)
        apply goes_cond (t := true)
        · simp (decide := true) only [ev_tmp, cel_eq]
        repeat apply goes_assoc
        apply goes_seq
        · skip
          apply goes_region
          apply ops_of
          intro self
          simp (decide := true) only [opsV, wantedV, stepV, opV, ev_tmp, evs, builtinV, cel_eq, cel_ne, cel_args, binV, ev_int, ev_bool, h0, h1, Option.bind_some, Option.map_some, ha.len Tryz.underlying37, hb.len Tryz.underlying37, if_true, hne]
          rfl
        exact goes_ret
      · simp (decide := true) only [cel_eq, cel_ne]
    obtain ⟨ts', h4, g1⟩ := hpre
    exact hfin ts' 0 false h4 g1

theorem goes71 {a b : V} {la lb : List Int} {st : St} (ha : Row .i64 st a la) (hb : Row .i64 st b lb) (hlen : la.length = lb.length) (hbig : la.length < 2 ^ 62) :
    ∃ k r, Goes Tryz.prog Xk 8 (.call 71 [a, b]) st (.val (.int .i64 r) ⟨st.h, st.n + k⟩) ∧ (r = 0 ↔ la = lb) := by
  have h0 : cel (argsT .leaf 0 [a, b]) 0 = a := by rw [cel_args]; rfl
  have h1 : cel (argsT .leaf 0 [a, b]) 1 = b := by rw [cel_args]; rfl
  have hfin : ∀ (ts' : T V) (k : Nat) (r : Int), cel ts' 4 = .int .i64 r → Goes Tryz.prog Xk 8 (.code ((Tryz.f71.body).getD .skip) ⟨argsT .leaf 0 [a, b], 30, [], none⟩) st (.code .ret ⟨ts', 30, [], none⟩ ⟨st.h, st.n + k⟩) →
      Goes Tryz.prog Xk 8 (.call 71 [a, b]) st (.val (.int .i64 r) ⟨st.h, st.n + k⟩) := fun ts' k r hr hg =>
    goes_call (vs := [.int .i64 r]) Tryz.func71 rfl hg (by simp) rfl (by rw [← hr]; rfl)
  have hpre : ∃ ts', (∀ o, Goes Tryz.prog Xk 8 (.code (.seq (.block 0 (.loop loop71)) (.seq (.region 8 #[{ dst := some 4, op := Op.assign (Operand.const (Value.int .i64 0)), type := 3, pos := "ref.go:199", after := #[], guard := none }] false) .ret)) ⟨ts', 30, [], none⟩) st o →
      Goes Tryz.prog Xk 8 (.code ((Tryz.f71.body).getD .skip) ⟨argsT .leaf 0 [a, b], 30, [], none⟩) st o) ∧
      cel ts' 0 = a ∧ cel ts' 1 = b ∧ cel ts' 5 = .int .i64 0 := by
    apply Exists.intro
    apply And.intro
    · intro o ho
      unfold loop71 Tryz.f71 at ho
      unfold Tryz.f71
      dsimp only [Option.getD] at ho ⊢
      repeat apply goes_assoc
      apply goes_seq
      · skip
        apply goes_region
        apply ops_of
        intro self
        simp (decide := true) only [opsV, wantedV, stepV, opV, ev_int, Option.bind_some, Option.map_some]
        rfl
      repeat apply goes_assoc
      apply goes_seq
      · skip
        apply goes_region
        apply ops_of
        intro self
        simp (decide := true) only [opsV, wantedV, stepV, opV, ev_int, Option.bind_some, Option.map_some]
        rfl
      exact ho
    · simp (decide := true) only [cel_eq, cel_ne, h0, h1, and_self]
  obtain ⟨ts1, g1, q0, q1, q5⟩ := hpre
  obtain ⟨e, ts2, k2, g2, g3⟩ := goes_loop71 ha hb hlen hbig (la.length - 0) 0 ts1 0 rfl (Nat.zero_le _) rfl q0 q1 q5
  rcases g3 with ⟨rfl, heq⟩ | ⟨rfl, ⟨r, h4, hr⟩, hne2⟩
  · refine ⟨k2, 0, ?_, by simp [heq]⟩
    refine hfin (putD ts2 30 (some 4) (.int .i64 0)) k2 0 (cel_eq rfl) (g1 _ ?_)
    refine goes_seq (goes_block (id := 0) (e := .exit 0) g2) ?_
    refine goes_seq (goes_region (ops_of fun self => rfl)) goes_ret
  · exact ⟨k2, r, hfin ts2 k2 r h4 (g1 _ (goes_seq_out (by simp) (goes_block (id := 0) (e := .ret) g2))), by simp [hr, hne2]⟩

theorem goes39 {a b : V} {la lb : List Int} {st : St} (ha : Row .i64 st a la) (hb : Row .i64 st b lb) (hbig : la.length < 2 ^ 62) :
    ∃ k, Goes Tryz.prog Xk 8 (.call 39 [a, b]) st (.val (.bool (decide (la = lb))) ⟨st.h, st.n + k⟩) := by
  have h0 : cel (argsT .leaf 0 [a, b]) 0 = a := by rw [cel_args]; rfl
  have h1 : cel (argsT .leaf 0 [a, b]) 1 = b := by rw [cel_args]; rfl
  have hfin : ∀ (ts' : T V) (k : Nat) (r : Bool), cel ts' 4 = .bool r → Goes Tryz.prog Xk 8 (.code ((Tryz.f39.body).getD .skip) ⟨argsT .leaf 0 [a, b], 14, [], none⟩) st (.code .ret ⟨ts', 14, [], none⟩ ⟨st.h, st.n + k⟩) →
      Goes Tryz.prog Xk 8 (.call 39 [a, b]) st (.val (.bool r) ⟨st.h, st.n + k⟩) := fun ts' k r hr hg =>
    goes_call (vs := [.bool r]) Tryz.func39 rfl hg (by simp) rfl (by rw [← hr]; rfl)
  by_cases hlen : la.length = lb.length
  · have hne : ((la.length : Int) != lb.length) = false := by simp [hlen]
    obtain ⟨k, r, hgo, hr⟩ := goes71 ha hb hlen hbig
    refine ⟨k, ?_⟩
    have hd : decide (la = lb) = (r == 0) := by rw [Bool.eq_iff_iff]; simp [hr]
    rw [hd]
    have hpre : ∃ ts', cel ts' 4 = .bool (r == 0) ∧ Goes Tryz.prog Xk 8 (.code ((Tryz.f39.body).getD .skip) ⟨argsT .leaf 0 [a, b], 14, [], none⟩) st (.code .ret ⟨ts', 14, [], none⟩ ⟨st.h, st.n + k⟩) := by
      apply Exists.intro
      rw [and_comm]
      apply And.intro
      · unfold Tryz.f39
        dsimp only [Option.getD]
        repeat apply goes_assoc
        apply goes_seq
        · skip
          apply goes_region
          apply ops_of
          intro self
          simp (decide := true) only [opsV, wantedV, stepV, opV, ev_tmp, evs, builtinV, cel_eq, cel_ne, cel_args, binV, ev_int, ev_bool, h0, h1, Option.bind_some, Option.map_some, ha.len Tryz.underlying38, hb.len Tryz.underlying38, if_true, hne]
          rfl
        repeat apply goes_assoc
        apply goes_seq
        · skip
          apply goes_region
          apply ops_of
          intro self
          simp (decide := true) only [opsV, wantedV, stepV, opV, ev_tmp, evs, builtinV, cel_eq, cel_ne, cel_args, binV, ev_int, ev_bool, h0, h1, Option.bind_some, Option.map_some, ha.len Tryz.underlying38, hb.len Tryz.underlying38, if_true, hne]
          rfl
        repeat apply goes_assoc
        apply goes_seq
        · apply goes_cond (t := false)
          · simp (decide := true) only [ev_tmp, cel_eq]
          · exact goes_skip
        repeat apply goes_assoc
        apply goes_seq
        · apply goes_region
          apply ops_plain rfl (fun self => by simp (decide := true) only [stepV, opV, ev_tmp, cel_eq, cel_ne, h0, Option.map_some]; rfl)
          apply ops_plain rfl (fun self => by simp (decide := true) only [stepV, opV, ev_tmp, cel_eq, cel_ne, h1, Option.map_some]; rfl)
          apply ops_call (p := []) (q := []) (args := [a, b]) rfl rfl rfl rfl (by simp (decide := true) only [evs, ev_tmp, cel_eq, cel_ne, Option.bind_some, Option.map_some]) rfl hgo
          apply ops_of
          intro self
          simp (decide := true) only [opsV, wantedV, stepV, opV, ev_tmp, ev_int, cel_eq, cel_ne, binV, Option.bind_some, Option.map_some, if_true]
          rfl
        exact goes_ret
      · simp (decide := true) only [cel_eq, cel_ne]
    obtain ⟨ts', h4, g1⟩ := hpre
    exact hfin ts' k _ h4 g1
  · have hne : ((la.length : Int) != lb.length) = true := by simp; omega
    refine ⟨0, ?_⟩
    rw [decide_eq_false (fun e => hlen (by rw [e]))]
    have hpre : ∃ ts', cel ts' 4 = .bool false ∧ Goes Tryz.prog Xk 8 (.code ((Tryz.f39.body).getD .skip) ⟨argsT .leaf 0 [a, b], 14, [], none⟩) st (.code .ret ⟨ts', 14, [], none⟩ st) := by
      apply Exists.intro
      rw [and_comm]
      apply And.intro
      · unfold Tryz.f39
        dsimp only [Option.getD]
        repeat apply goes_assoc
        apply goes_seq
        · skip
          apply goes_region
          apply ops_of
          intro self
          simp (decide := true) only [opsV, wantedV, stepV, opV, ev_tmp, evs, builtinV, cel_eq, cel_ne, cel_args, binV, ev_int, ev_bool, h0, h1, Option.bind_some, Option.map_some, ha.len Tryz.underlying38, hb.len Tryz.underlying38, if_true, hne]
          rfl
        repeat apply goes_assoc
        apply goes_seq
        · skip
          apply goes_region
          apply ops_of
          intro self
          simp (decide := true) only [opsV, wantedV, stepV, opV, ev_tmp, evs, builtinV, cel_eq, cel_ne, cel_args, binV, ev_int, ev_bool, h0, h1, Option.bind_some, Option.map_some, ha.len Tryz.underlying38, hb.len Tryz.underlying38, if_true, hne]
          rfl
        repeat apply goes_assoc
        apply goes_seq_out (by simp)
        apply goes_cond (t := true)
        · simp (decide := true) only [ev_tmp, cel_eq]
        repeat apply goes_assoc
        apply goes_seq
        · skip
          apply goes_region
          apply ops_of
          intro self
          simp (decide := true) only [opsV, wantedV, stepV, opV, ev_tmp, evs, builtinV, cel_eq, cel_ne, cel_args, binV, ev_int, ev_bool, h0, h1, Option.bind_some, Option.map_some, ha.len Tryz.underlying38, hb.len Tryz.underlying38, if_true, hne]
          rfl
        exact goes_ret
      · simp (decide := true) only [cel_eq, cel_ne]
    obtain ⟨ts', h4, g1⟩ := hpre
    exact hfin ts' 0 false h4 g1
end Go.Proofs.YtbfagojdbebikaaGreatDoor
