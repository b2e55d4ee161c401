/- VEX, part 23: frames, results, the records of range-over-func loops. Generic in the program. -/
import Derived.Test.YtbfagojdbebikaaGreatDoorVex22
import Derived.RangeFuncRecord
import Derived.RangeFuncNested
namespace Go.Vex
open Go Go.RowKit

section
variable {P : Program} {X : FuncId → Option Ext} {G B : Nat} {ρ : Rho} {st : St} {w : World}

theorem argsT_get : ∀ (vs : List V) (ts : T V) (i t : Nat), (argsT ts i vs).get t = if i ≤ t ∧ t < i + vs.length then vs[t - i]? else ts.get t
  | [], ts, i, t => by
    rw [if_neg (by rw [List.length_nil]; omega)]
    rfl
  | v :: vs, ts, i, t => by
    rw [argsT, argsT_get vs]
    by_cases h : i + 1 ≤ t ∧ t < i + 1 + vs.length
    · rw [if_pos h, if_pos (by simp; omega), show t - i = (t - (i + 1)) + 1 by omega, List.getElem?_cons_succ]
    · rw [if_neg h, T.get_put]
      by_cases hti : t = i
      · subst hti
        rw [if_pos rfl, if_pos (by simp), Nat.sub_self]
        rfl
      · rw [if_neg hti, if_neg (by simp; omega)]

theorem args_rel {vs : List V} {xs : List Value} (h : VRels ρ vs xs) (k : Nat) : TRel ρ (argsT .leaf 0 vs) (vs.length + (k - vs.length)) (xs.toArray ++ Array.replicate (k - xs.toArray.size) undef) := by
  have hl := h.length
  refine ⟨by simp [hl], fun t => ?_⟩
  rw [argsT_get, Array.getD_eq_getD_getElem?]
  by_cases ht : t < vs.length
  · rw [if_pos ⟨Nat.zero_le _, by omega⟩, Nat.sub_zero, List.getElem?_eq_getElem ht]
    obtain ⟨x, h1, h2⟩ := h.get t _ (List.getElem?_eq_getElem ht)
    rw [Array.getElem?_append_left (by simp; omega)]
    simp only [List.getElem?_toArray, h1, Option.getD_some]
    exact h2
  · rw [if_neg (by omega), T.get_leaf, Array.getElem?_append_right (by simp; omega), Array.getElem?_replicate]
    split <;> exact undef_rel

theorem putAll_rel {N : Nat} : ∀ (ps : List Tmp) (vs : List V) (xs : List Value) (ts : T V) (tmps : Array Value), ps.length = vs.length → VRels ρ vs xs → TRel ρ ts N tmps →
    TRel ρ (putAll N ts ps vs) N ((ps.zip xs).foldl (fun tmps (p : Tmp × Value) => tmps.setIfInBounds p.1 p.2) tmps)
  | [], [], xs, ts, tmps, _, h, ht => by rw [show xs = [] from h]; exact ht
  | [], _ :: _, _, _, _, hl, _, _ => by simp at hl
  | _ :: _, [], _, _, _, hl, _, _ => by simp at hl
  | p :: ps, v :: vs, _, ts, tmps, hl, ⟨x, xs, e, h1, h2⟩, ht => by
    subst e
    simp only [putAll, List.zip_cons_cons, List.foldl_cons]
    exact putAll_rel ps vs xs _ _ (by simpa using hl) h2 (TRel.put (a := { tmps := tmps, defers := [] }) ht h1 (some p))

def resOf (tmps : Array Value) : ResultVar → Sem Value
  | .tmp t => pure (tmps.getD t undef)
  | .cell a t => do loadVar t (← asAddr (tmps.getD a undef))

theorem results_list (h : HRep P G B ρ st w) {ts : T V} {N : Nat} {tmps : Array Value} (ht : TRel ρ ts N tmps) : ∀ {l : List ResultVar} {vs : List V}, resultsV P ts N st l = some vs →
    ∃ xs, (l.mapM (resOf tmps)).run P w = .ok xs w ∧ VRels ρ vs xs
  | [], vs, hv => by
    simp only [resultsV, Option.some.injEq] at hv
    subst hv
    exact ⟨[], by simp, rfl⟩
  | .tmp t :: l, vs, hv => by
    simp only [resultsV] at hv
    obtain ⟨us, h1, rfl⟩ := map2 hv
    obtain ⟨xs, h2, h3⟩ := results_list h ht h1
    refine ⟨_, ?_, VRels.cons (ht.2 t) h3⟩
    rw [List.mapM_cons]
    simp only [resOf, Sem.run_bind, Sem.run_pure, Result.andThen_ok, h2]
  | .cell a t :: l, vs, hv => by
    simp only [resultsV] at hv
    have ha := ht.2 a
    split at hv
    · rename_i lb off heq
      rw [heq] at ha
      obtain ⟨L, hL, hx⟩ := ha
      obtain ⟨v, h1, hv⟩ := bind2 hv
      obtain ⟨us, h2, rfl⟩ := map2 hv
      obtain ⟨xs, h3, h4⟩ := results_list h ht h2
      obtain ⟨x, h5, h6⟩ := run_loadVar h h1 hL
      refine ⟨_, ?_, VRels.cons h6 h4⟩
      rw [List.mapM_cons]
      simp only [resOf, Sem.run_bind, hx, asAddr, Sem.run_pure, Result.andThen_ok, h5, h3]
    · cases hv

def tupV : List V → V
  | [v] => v
  | vs => .tup vs

theorem results_ok (h : HRep P G B ρ st w) {ts : T V} {N : Nat} {tmps : Array Value} (ht : TRel ρ ts N tmps) {fn : Func} {vs : List V} (hv : resultsV P ts N st fn.results.toList = some vs) :
    ∃ x, (results fn tmps).run P w = .ok x w ∧ VRel ρ (tupV vs) x := by
  obtain ⟨xs, h1, h2⟩ := results_list h ht hv
  have hm : (results fn tmps).run P w = .ok (if hh : xs.toArray.size = 1 then xs.toArray[0] else .tuple xs.toArray) w := by
    have hdef : results fn tmps = (do
        let vs ← fn.results.mapM (resOf tmps)
        pure (if h : vs.size = 1 then vs[0] else .tuple vs)) := rfl
    rw [hdef, Array.mapM_eq_mapM_toList]
    simp only [Sem.run_bind, Sem.run_map, h1, Result.andThen_ok, Sem.run_pure]
  refine ⟨_, hm, ?_⟩
  match vs, h2 with
  | [], h2 => rw [show xs = [] from h2]; exact ⟨[], rfl, rfl⟩
  | [v], h2 =>
    obtain ⟨x, ys, e, r, s⟩ := h2
    rw [show ys = [] from s] at e
    subst e
    exact r
  | u :: v :: vs, h2 =>
    have hl := h2.length
    rw [dif_neg (by simp [hl])]
    exact ⟨xs, rfl, h2⟩

/-- What is an own object of the label-heap's, no cells. -/
theorem HRep.loop (h : HRep P G B ρ st w) {l : Nat} {s : LoopState} {pd : Option Code} {ts : T V} {N : Nat} {ps : List Tmp} {as_ b : Code} {dl : Nat} (hl : st.h.get l = some (.loop s pd ts N ps as_ b dl)) {L : Loc} (hL : ρ l = some L) :
    B ≤ L.blk ∧ ∃ r, w.heap[L.blk]? = some (.loop r) ∧ r.state = s ∧ r.pending = pd ∧ TRel ρ ts N r.tmps ∧ r.params.toList = ps ∧ r.assign = as_ ∧ r.body = b ∧ ∃ D, ρ dl = some D ∧ r.defers = D.blk := by
  obtain ⟨L', hL', r⟩ := h.obj l _ hl
  obtain rfl : L' = L := Option.some.inj (hL'.symm.trans hL)
  exact r

/-- A loop's record turns. -/
theorem Step.loop (h : HRep P G B ρ st w) {l : Nat} {s s' : LoopState} {pd pd' : Option Code} {ts : T V} {N : Nat} {ps : List Tmp} {as_ b : Code} {dl : Nat} (hl : st.h.get l = some (.loop s pd ts N ps as_ b dl)) {L : Loc} (hL : ρ l = some L)
    {r : Loop} (hr : w.heap[L.blk]? = some (.loop r)) : Step P G B ρ st w ρ (st.set l (.loop s' pd' ts N ps as_ b dl)) (w.putObj L.blk (.loop { r with state := s', pending := pd' })) := by
  obtain ⟨h1, r', h2, h3, h4, h5, h6, h7, h8, D, h9, h10⟩ := h.loop hl hL
  obtain rfl : r = r' := by rw [hr] at h2; simpa using h2
  have hlt := h.size l L hL
  exact Step.write h hl rfl hL ⟨h1, { r with state := s', pending := pd' }, by simp [Array.getElem?_setIfInBounds_self_of_lt hlt], rfl, rfl, h5, h6, h7, h8, D, h9, h10⟩

theorem enter_ok (h : HRep P G B ρ st w) {fr : Fr} {rb : Option Nat} {a : Act} (hf : FrRel ρ fr rb a) {dl : Nat} {dm : List Nat} {st1 : St}
    (e : (match fr.ro with
          | none => match st.new (.deferred true) with
            | (d, st) => some (d, d :: fr.dm, st)
          | some r => match st.h.get r with
            | some (.loop _ _ _ _ _ _ _ dl) => some (dl, fr.dm, st)
            | _ => none) = some (dl, dm, st1)) (fn : FuncId) (params : Array Tmp) (assign b : Code) :
    ∃ l mark w1 ρ1, (Instr.enterLoop fn a.tmps params assign b rb).run P w = .ok (l, mark) w1 ∧ Step P G B ρ st w ρ1 (st1.new (.loop .ready none fr.ts fr.N params.toList assign b dl)).2 w1 ∧
      (∃ L, ρ1 st1.n = some L ∧ L.blk = l) ∧ DRel ρ1 dm (mark ++ a.defers) := by
  have main : ∀ {ρ' : Rho} {st' : St} {w' : World} {D : Loc}, Step P G B ρ st w ρ' st' w' → ρ' dl = some D →
      Step P G B ρ st w (fun m => if m = st'.n then some ⟨w'.heap.size, 0, 0, 0⟩ else ρ' m) (st'.new (.loop .ready none fr.ts fr.N params.toList assign b dl)).2
        (w'.alloc (.loop { state := .ready, pending := none, fn, tmps := a.tmps, params, assign, body := b, defers := D.blk })) := by
    intro ρ' st' w' D s hD
    have le := new_le s.rep ⟨w'.heap.size, 0, 0, 0⟩
    exact s.trans (Step.alloc s.rep rfl ⟨s.rep.base, _, World.alloc_heap_new _ _, rfl, rfl, (hf.t.mono s.le).mono le, rfl, rfl, rfl, D, le _ _ hD, rfl⟩)
  have hro := hf.r
  cases hr : fr.ro with
  | none =>
    rw [hr] at hro e
    subst hro
    simp only [St.new, Option.some.injEq, Prod.mk.injEq] at e
    obtain ⟨rfl, rfl, rfl⟩ := e
    have s1 := Step.alloc (P := P) (G := G) (B := B) h (o := .deferred true) (O := .deferred (some [])) (L := ⟨w.heap.size, 0, 0, 0⟩) rfl ⟨h.base, World.alloc_heap_new _ _⟩
    have hD : (fun m => if m = st.n then some (⟨w.heap.size, 0, 0, 0⟩ : Loc) else ρ m) st.n = some ⟨w.heap.size, 0, 0, 0⟩ := by simp
    have s2 := main s1 hD
    refine ⟨_, _, _, _, run_enterLoop_outer fn a.tmps params assign b, s2, ⟨_, by simp [St.new]; rfl, by simp⟩, ?_⟩
    refine ⟨⟨w.heap.size, 0, 0, 0⟩, a.defers, ?_, rfl, hf.d.mono s2.le⟩
    have le := new_le s1.rep ⟨(w.alloc (.deferred (some []))).heap.size, 0, 0, 0⟩
    exact le _ _ hD
  | some r =>
    rw [hr] at hro e
    obtain ⟨L, hL, rfl⟩ := hro
    simp only at e
    split at e
    · rename_i s pd ts N ps as_ b' dl' hobj
      simp only [Option.some.injEq, Prod.mk.injEq] at e
      obtain ⟨rfl, rfl, rfl⟩ := e
      obtain ⟨h1, r', h2, h3, h4, h5, h6, h7, h8, D, h9, h10⟩ := h.loop hobj hL
      have s2 := main (.refl h) h9
      rw [← h10] at s2
      exact ⟨_, _, _, _, run_enterLoop_inner h2 fn a.tmps params assign b, s2, ⟨_, by simp; rfl, rfl⟩, hf.d.mono s2.le⟩
    · cases e

/-- The marks of a frame, at its end. -/
theorem leaves_ok {F : Fence} {n : Nat} {fn : Func} {tmps : Array Value} {R : Ending → World → Prop} {st2 : St} : ∀ (dm : List Nat) {ds : List Deferred} {st : St} {w : World}, HRep P G B ρ st w → DRel ρ dm ds → takeMarks st dm = some st2 →
    (∀ w2, Step P G B ρ st w ρ st2 w2 → ∃ v, (results fn tmps).run P w2 = .ok v w2 ∧ R (.returned v) w2) → LeavesInM F n P fn tmps R ds .returning w
  | [], ds, st, w, h, hd, ht, hR => by
    rw [show ds = [] from hd]
    simp only [takeMarks, Option.some.injEq] at ht
    subst ht
    exact hR w (.refl h)
  | d :: dm, ds, st, w, h, ⟨L, ds', hL, e, hd⟩, ht, hR => by
    subst e
    simp only [takeMarks] at ht
    split at ht
    · rename_i hobj
      obtain ⟨L', hL', r⟩ := h.obj d _ hobj
      obtain rfl : L' = L := Option.some.inj (hL'.symm.trans hL)
      have r2 : w.heap[L'.blk]? = some (.deferred (some [])) := r.2
      have hlt := h.size d L' hL
      have s : Step P G B ρ st w ρ (st.set d (.deferred false)) (w.putObj L'.blk (.deferred none)) :=
        Step.write h hobj rfl hL ⟨r.1, by simp [Array.getElem?_setIfInBounds_self_of_lt hlt]⟩
      refine ⟨by simp, .inl ⟨L'.blk, _, rfl, run_takeDeferred r2, ?_⟩⟩
      exact leaves_ok dm s.rep hd ht fun w2 s2 => hR w2 (s.trans s2)
    · cases ht
end
end Go.Vex
