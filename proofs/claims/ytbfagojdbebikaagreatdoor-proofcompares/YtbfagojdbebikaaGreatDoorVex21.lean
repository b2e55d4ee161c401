/- VEX, part 21: a region that draws its order, whatever the order drawn. Generic in the program. -/
import Derived.Test.YtbfagojdbebikaaGreatDoorVex20
namespace Go.Vex
open Go Go.RowKit

section
variable {P : Program} {X : FuncId → Option Ext} {G B : Nat} {self : Job → St → Option Out} {ops : Array Oper} {N : Nat} {ms : T Nat} {D : Nat → DS} {val : Nat → V}
  {ρ0 ρ ρ' : Rho} {st0 : St} {w0 w w' : World} {ts0 : T V} {df : List Deferred} {L : Array Bool} {p : Nat} {a : Act}

def Made (P : Program) (G : Nat) (ops : Array Oper) (N : Nat) (D : Nat → DS) (j : Nat) (ob : HObj) (mk : Nat → V) : Prop :=
  ∃ o, ops[j]? = some o ∧ dkind P o.op = .alloc ∧ wantedV ops (D j).ts N o = true ∧ allocV P G (D j).ts o.op = some (ob, mk)

/-- Where a drawn order stands: L lists what has run; p is the first operation of weight that has not. -/
structure Inv (P : Program) (G B : Nat) (ops : Array Oper) (N : Nat) (D : Nat → DS) (val : Nat → V) (ρ0 : Rho) (st0 : St) (w0 : World) (ts0 : T V) (df : List Deferred)
    (L : Array Bool) (p : Nat) (ρ : Rho) (a : Act) (w : World) : Prop where
  size : L.size = ops.size
  closed : ∀ k o e, ops[k]? = some o → L.getD k false = true → e ∈ o.after.toList → Region.binds .any e = true → L.getD e.on false = true
  pn : p ≤ ops.size
  stage : IsChain P ops p ∨ p = ops.size
  here : L.getD p false = false
  before : ∀ c, IsChain P ops c → c < p → L.getD c false = true
  step : Step P G B ρ0 st0 w0 ρ (D p).st w
  nle : st0.n + ops.size ≤ (D p).st.n
  tmps : TRel ρ (tsOf ops N val ts0 (fun i => L.getD i false) ops.size) N a.tmps
  defers : a.defers = df
  made : ∀ j ob mk, Made P G ops N D j ob mk → L.getD j false = true → (∀ c, j < c → c < p → ¬ IsChain P ops c) → ∃ M, Ahead P B ρ (D p).st w0 w (st0.n + j) ob M
  ap : ∀ j j' ob ob' mk mk', Made P G ops N D j ob mk → Made P G ops N D j' ob' mk' → j ≠ j' → L.getD j false = true → L.getD j' false = true →
    (∀ c, j < c → c < p → ¬ IsChain P ops c) → (∀ c, j' < c → c < p → ¬ IsChain P ops c) → ∀ M M', ρ (st0.n + j) = some M → ρ (st0.n + j') = some M' → M.blk ≠ M'.blk
  free : ∀ j, j < ops.size → L.getD j false = false → ρ (st0.n + j) = none

theorem set_getD {L : Array Bool} {i : Nat} (hi : i < L.size) (j : Nat) : (L.setIfInBounds i true).getD j false = if j = i then true else L.getD j false := by
  by_cases h : j = i
  · subst h
    rw [if_pos rfl, Array.getD_eq_getD_getElem?, Array.getElem?_setIfInBounds_self_of_lt hi]
    rfl
  · rw [if_neg h]
    simp [Array.getD_eq_getD_getElem?, Array.getElem?_setIfInBounds_ne (Ne.symm h)]

theorem anc_listed (hc : ∀ k o e, ops[k]? = some o → L.getD k false = true → e ∈ o.after.toList → Region.binds .any e = true → L.getD e.on false = true) {i j : Nat} (h : Anc ops i j) : L.getD j false = true → L.getD i false = true := by
  induction h with
  | edge ho he hb hon => intro hj; subst hon; exact hc _ _ _ ho hj he hb
  | trans _ _ ih1 ih2 => intro hk; exact ih1 (ih2 hk)

theorem anc_ready (hc : ∀ k o e, ops[k]? = some o → L.getD k false = true → e ∈ o.after.toList → Region.binds .any e = true → L.getD e.on false = true) {i : Nat} {o : Oper} (ho : ops[i]? = some o)
    (hr : ∀ e ∈ o.after, Region.binds .any e = true → L.getD e.on false = true) {j k : Nat} (h : Anc ops j k) : (k = i ∨ L.getD k false = true) → L.getD j false = true := by
  induction h with
  | edge ho' he hb hon =>
    rintro (rfl | hk)
    · obtain rfl := Option.some.inj (ho.symm.trans ho')
      subst hon
      exact hr _ (by simpa using he) hb
    · subst hon; exact hc _ _ _ ho' hk he hb
  | trans _ _ ih1 ih2 => intro hk; exact ih1 (.inr (ih2 hk))

theorem dstepV_pend {n0 i : Nat} {o : Oper} {d d' : DS} {v : V} (h : dstepV P X G self ops N n0 i o d = some (d', v)) :
    (dkind P o.op = .chain ∧ d'.pend = []) ∨ (dkind P o.op ≠ .chain ∧ d'.pend = d.pend) ∨
    (dkind P o.op = .alloc ∧ wantedV ops d.ts N o = true ∧ ∃ ob mk, allocV P G d.ts o.op = some (ob, mk) ∧ d'.pend = d.pend ++ [(n0 + i, ob)] ∧ v = mk (n0 + i)) := by
  unfold dstepV at h
  split at h
  · rename_i hk
    simp only [Option.some.injEq, Prod.mk.injEq] at h
    obtain ⟨rfl, rfl⟩ := h
    exact .inl ⟨hk, rfl⟩
  · rename_i hk
    simp only [Option.some.injEq, Prod.mk.injEq] at h
    obtain ⟨rfl, rfl⟩ := h
    exact .inr (.inl ⟨hk, rfl⟩)
  · rename_i _ hk
    obtain ⟨r, _, e⟩ := map2 h
    simp only [Prod.mk.injEq] at e
    obtain ⟨rfl, rfl⟩ := e
    exact .inr (.inl ⟨by rw [hk]; simp, rfl⟩)
  · rename_i hw hk
    obtain ⟨r, hr, e⟩ := map2 h
    simp only [Prod.mk.injEq] at e
    obtain ⟨rfl, rfl⟩ := e
    exact .inr (.inr ⟨hk, hw, r.1, r.2, hr, rfl, rfl⟩)
  · rename_i _ hk
    obtain ⟨r, _, e⟩ := map2 h
    simp only [Prod.mk.injEq] at e
    obtain ⟨rfl, rfl⟩ := e
    exact .inl ⟨hk, rfl⟩

theorem pend_spec {n0 : Nat} (run : DRun P X G self ops N n0 D val) (h0 : (D 0).pend = []) : ∀ p, p ≤ ops.size →
    (∀ q ∈ (D p).pend, ∃ j mk, q.1 = n0 + j ∧ j < p ∧ Made P G ops N D j q.2 mk ∧ ∀ c, j < c → c < p → ¬ IsChain P ops c) ∧ (D p).pend.Pairwise (fun q q' => q.1 ≠ q'.1)
  | 0, _ => by rw [h0]; exact ⟨fun q hq => (by cases hq), .nil⟩
  | p + 1, hp => by
    obtain ⟨ih1, ih2⟩ := pend_spec run h0 p (by omega)
    have ho : ops[p]? = some ops[p] := Array.getElem?_eq_getElem (by omega)
    rcases dstepV_pend (run.step p _ ho) with ⟨_, h2⟩ | ⟨h1, h2⟩ | ⟨h1, hw, ob, mk, h3, h2, _⟩
    · rw [h2]; exact ⟨fun q hq => (by cases hq), .nil⟩
    · rw [h2]
      refine ⟨fun q hq => ?_, ih2⟩
      obtain ⟨j, mk, e1, e2, e3, e4⟩ := ih1 q hq
      refine ⟨j, mk, e1, by omega, e3, fun c c1 c2 c3 => ?_⟩
      by_cases hcp : c = p
      · obtain ⟨o', ho', hch⟩ := c3
        rw [hcp, ho] at ho'
        obtain rfl := Option.some.inj ho'
        exact h1 hch
      · exact e4 c c1 (by omega) c3
    · rw [h2]
      have hnc : ¬ IsChain P ops p := fun ⟨o', ho', hch⟩ => by
        rw [ho] at ho'
        obtain rfl := Option.some.inj ho'
        rw [h1] at hch
        cases hch
      refine ⟨fun q hq => ?_, ?_⟩
      · rcases List.mem_append.1 hq with hq | hq
        · obtain ⟨j, mk, e1, e2, e3, e4⟩ := ih1 q hq
          refine ⟨j, mk, e1, by omega, e3, fun c c1 c2 c3 => ?_⟩
          by_cases hcp : c = p
          · exact hnc (hcp ▸ c3)
          · exact e4 c c1 (by omega) c3
        · obtain rfl := List.mem_singleton.1 hq
          exact ⟨p, mk, rfl, by omega, ⟨_, ho, h1, hw, h3⟩, fun c c1 c2 => by omega⟩
      · refine List.pairwise_append.2 ⟨ih2, List.pairwise_singleton _ _, fun q hq q' hq' => ?_⟩
        obtain rfl := List.mem_singleton.1 hq'
        obtain ⟨j, mk, e1, e2, _⟩ := ih1 q hq
        simp only
        omega

theorem D_ts {n0 : Nat} (run : DRun P X G self ops N n0 D val) (h0 : (D 0).ts = ts0) (t : Nat) : ∀ i, i ≤ ops.size → cel (tsOf ops N val ts0 (fun _ => true) i) t = cel (D i).ts t
  | 0, _ => by rw [h0]; rfl
  | i + 1, hi => by
    have ho : ops[i]? = some ops[i] := Array.getElem?_eq_getElem (by omega)
    rw [dstepV_ts (run.step i _ ho)]
    simp only [tsOf, ho, cel_put]
    rw [D_ts run h0 t i (by omega)]

theorem next_stage (P : Program) (ops : Array Oper) : ∀ (k i : Nat), i + k = ops.size → ∃ p, i ≤ p ∧ p ≤ ops.size ∧ (IsChain P ops p ∨ p = ops.size) ∧ ∀ c, i ≤ c → c < p → ¬ IsChain P ops c
  | 0, i, h => ⟨i, Nat.le_refl _, by omega, .inr (by omega), fun c h1 h2 => by omega⟩
  | k + 1, i, h => by
    by_cases hc : IsChain P ops i
    · exact ⟨i, Nat.le_refl _, by omega, .inl hc, fun c h1 h2 => by omega⟩
    · obtain ⟨p, h1, h2, h3, h4⟩ := next_stage P ops k (i + 1) (by omega)
      refine ⟨p, by omega, h2, h3, fun c c1 c2 => ?_⟩
      by_cases hci : c = i
      · rw [hci]; exact hc
      · exact h4 c (by omega) c2

section
variable (inv : Inv P G B ops N D val ρ0 st0 w0 ts0 df L p ρ a w) (ok : DOK P ops ms) (run : DRun P X G self ops N st0.n D val) {i : Nat} {o : Oper} (ho : ops[i]? = some o) (hi : L.getD i false = false)
  (hr : ∀ e ∈ o.after, Region.binds .any e = true → L.getD e.on false = true)
include inv ho in
theorem Inv.lt : i < L.size := by rw [inv.size]; exact (Array.getElem?_eq_some_iff.1 ho).1

include inv ok ho hi

theorem Inv.tmps_next (le : ρ.le ρ') {r : Value} (hv : VRel ρ' (val i) r) : TRel ρ' (tsOf ops N val ts0 (fun j => (L.setIfInBounds i true).getD j false) ops.size) N (a.put o.dst r).tmps := by
  refine TRel.congr ((inv.tmps.mono le).put hv o.dst) fun t => ?_
  have hlt := inv.lt ho
  have hin : i < ops.size := by rw [← inv.size]; exact hlt
  by_cases hd : o.dst = some t ∧ t < N
  · rw [cel_put, if_pos hd]
    obtain ⟨k, hk⟩ : ∃ k, ops.size = i + 1 + k := ⟨ops.size - (i + 1), by omega⟩
    rw [hk, tsOf_stay k]
    · simp only [tsOf, ho, set_getD hlt, if_true, cel_put, if_pos hd]
    · intro j oj h1 h2 hj hdj _
      rw [set_getD hlt, if_neg (by omega)]
      cases hL : L.getD j false with
      | false => rfl
      | true =>
        have := anc_listed inv.closed (ok.conf i j o oj (by omega) ho hj (.inl ⟨t, hd.1, .inr hdj⟩)) hL
        rw [hi] at this
        cases this
  · rw [cel_put, if_neg hd]
    refine tsOf_same _ fun j oj h1 hj hdj htN => ?_
    have hne : j ≠ i := fun e => by
      subst e
      obtain rfl := Option.some.inj (ho.symm.trans hj)
      exact hd ⟨hdj, htN⟩
    rw [set_getD hlt, if_neg hne]

include run hr in
theorem Inv.agree (h0 : (D 0).ts = ts0) : Agree (tsOf ops N val ts0 (fun j => L.getD j false) ops.size) (D i).ts (o.looksAt ops) := by
  intro t ht
  have hin : i < ops.size := (Array.getElem?_eq_some_iff.1 ho).1
  obtain ⟨k, hk⟩ : ∃ k, ops.size = i + k := ⟨ops.size - i, by omega⟩
  have h1 : cel (tsOf ops N val ts0 (fun j => L.getD j false) ops.size) t = cel (tsOf ops N val ts0 (fun j => L.getD j false) i) t := by
    rw [hk]
    refine tsOf_stay k fun j oj h1 h2 hj hdj _ => ?_
    by_cases hji : j = i
    · rw [hji]; exact hi
    · cases hL : L.getD j false with
      | false => rfl
      | true =>
        have := anc_listed inv.closed (ok.conf i j o oj (by omega) ho hj (.inr ⟨t, hdj, ht⟩)) hL
        rw [hi] at this
        cases this
  have h2 : cel (tsOf ops N val ts0 (fun j => L.getD j false) i) t = cel (tsOf ops N val ts0 (fun _ => true) i) t := by
    refine tsOf_same _ fun j oj hj hoj hdj _ => ?_
    exact anc_ready inv.closed ho hr (ok.conf j i oj o hj hoj ho (.inl ⟨t, hdj, .inl ht⟩)) (.inl rfl)
  exact (h1.trans h2).trans (D_ts run h0 t i (by omega))

omit ok in
include hr in
theorem Inv.closed_next : ∀ k o' e, ops[k]? = some o' → (L.setIfInBounds i true).getD k false = true → e ∈ o'.after.toList → Region.binds .any e = true → (L.setIfInBounds i true).getD e.on false = true := by
  have hlt := inv.lt ho
  intro k o' e hk hL he hb
  rw [set_getD hlt] at hL ⊢
  split
  · rfl
  · by_cases hki : k = i
    · subst hki
      obtain rfl := Option.some.inj (ho.symm.trans hk)
      exact hr e (by simpa using he) hb
    · rw [if_neg hki] at hL
      exact inv.closed k o' e hk hL he hb

include hr in
/-- An operation of weight that may run is the first that has not. -/
theorem Inv.chain_here (hc : dkind P o.op = .chain) : p = i := by
  have hic : IsChain P ops i := ⟨o, ho, hc⟩
  rcases Nat.lt_trichotomy p i with h | h | h
  · rcases inv.stage with ⟨o', ho', hc'⟩ | h'
    · have := anc_ready inv.closed ho hr (ok.hard p i o' o h ho' ho hc (by rw [hc']; simp)) (.inl rfl)
      rw [inv.here] at this
      cases this
    · have := (Array.getElem?_eq_some_iff.1 ho).1; omega
  · exact h
  · have := inv.before i hic h
    rw [hi] at this
    cases this

include hr in
/-- An operation that is not of weight has run, and has made no block. -/
theorem Inv.next_quiet (hc : dkind P o.op ≠ .chain) (hm : ∀ ob mk, ¬ Made P G ops N D i ob mk) (s : Step P G B ρ (D p).st w ρ' (D p).st w') {r : Value} (hv : VRel ρ' (val i) r) :
    Inv P G B ops N D val ρ0 st0 w0 ts0 df (L.setIfInBounds i true) p ρ' (a.put o.dst r) w' := by
  have hlt := inv.lt ho
  have hin : i < ops.size := (Array.getElem?_eq_some_iff.1 ho).1
  have hnc : ¬ IsChain P ops i := fun ⟨o', ho', hc'⟩ => by
    obtain rfl := Option.some.inj (ho.symm.trans ho')
    exact hc hc'
  have hold : ∀ j ob mk, Made P G ops N D j ob mk → (L.setIfInBounds i true).getD j false = true → L.getD j false = true := fun j ob mk hj hL => by
    rw [set_getD hlt] at hL
    split at hL
    · rename_i e; subst e; exact absurd hj (hm ob mk)
    · exact hL
  have hlab : ∀ j, j < ops.size → ∀ M, ρ' (st0.n + j) = some M → ρ (st0.n + j) = some M := fun j hj M hM => s.old _ (by have := inv.nle; omega) M hM
  refine ⟨by rw [Array.size_setIfInBounds]; exact inv.size, inv.closed_next ho hi hr, inv.pn, inv.stage, ?_, ?_, inv.step.trans s, inv.nle, inv.tmps_next ok ho hi s.le hv, ?_, ?_, ?_, ?_⟩
  · rw [set_getD hlt, if_neg]
    · exact inv.here
    · intro e
      rcases inv.stage with h | h
      · exact hnc (e ▸ h)
      · omega
  · intro c hcc hcp
    rw [set_getD hlt]
    split
    · rfl
    · exact inv.before c hcc hcp
  · rw [← inv.defers]; cases o.dst <;> rfl
  · intro j ob mk hj hL hcm
    obtain ⟨M, hM⟩ := inv.made j ob mk hj (hold j ob mk hj hL) hcm
    exact ⟨M, hM.step s⟩
  · intro j j' ob ob' mk mk' hj hj' hne hL hL' hcm hcm' M M' hM hM'
    have b1 : j < ops.size := by obtain ⟨_, x, _⟩ := hj; exact (Array.getElem?_eq_some_iff.1 x).1
    have b2 : j' < ops.size := by obtain ⟨_, x, _⟩ := hj'; exact (Array.getElem?_eq_some_iff.1 x).1
    exact inv.ap j j' ob ob' mk mk' hj hj' hne (hold j ob mk hj hL) (hold j' ob' mk' hj' hL') hcm hcm' M M' (hlab j b1 M hM) (hlab j' b2 M' hM')
  · intro j hj hL
    rw [set_getD hlt] at hL
    split at hL
    · cases hL
    · have hn := inv.free j hj hL
      cases hx : ρ' (st0.n + j) with
      | none => rfl
      | some M => rw [hlab j hj M hx] at hn; cases hn

include hr in
/-- A block has been made. -/
theorem Inv.next_alloc (hc : dkind P o.op = .alloc) {ob : HObj} {mk : Nat → V} (hmade : Made P G ops N D i ob mk) {M : Loc} {O : Obj} (hM : M.blk = w.heap.size)
    (hO : ORel P B (fun m => if m = st0.n + i then some M else ρ m) ob M { w with heap := w.heap.push O }) {r : Value} (hv : VRel (fun m => if m = st0.n + i then some M else ρ m) (val i) r) :
    Inv P G B ops N D val ρ0 st0 w0 ts0 df (L.setIfInBounds i true) p (fun m => if m = st0.n + i then some M else ρ m) (a.put o.dst r) { w with heap := w.heap.push O } := by
  have hlt := inv.lt ho
  have hin : i < ops.size := (Array.getElem?_eq_some_iff.1 ho).1
  have hnone := inv.free i hin hi
  have hnc : ¬ IsChain P ops i := fun ⟨o', ho', hc'⟩ => by
    obtain rfl := Option.some.inj (ho.symm.trans ho')
    rw [hc] at hc'
    cases hc'
  have le : ρ.le (fun m => if m = st0.n + i then some M else ρ m) := fun m L hm => by
    have : m ≠ st0.n + i := fun e => by rw [e, hnone] at hm; cases hm
    simp [this, hm]
  have hne : ∀ m o' L', (D p).st.h.get m = some o' → (fun m => if m = st0.n + i then some M else ρ m) m = some L' → ρ m = some L' := fun m o' L' hm hL => by
    obtain ⟨L1, hL1, _⟩ := inv.step.rep.obj m o' hm
    have : m ≠ st0.n + i := fun e => by rw [e, hnone] at hL1; cases hL1
    simpa [this] using hL
  refine ⟨by rw [Array.size_setIfInBounds]; exact inv.size, inv.closed_next ho hi hr, inv.pn, inv.stage, ?_, ?_, inv.step.allocAt hnone (by omega) (by have := inv.nle; omega) hM, inv.nle, inv.tmps_next ok ho hi le hv, ?_, ?_, ?_, ?_⟩
  · rw [set_getD hlt, if_neg]
    · exact inv.here
    · intro e
      rcases inv.stage with h | h
      · exact hnc (e ▸ h)
      · omega
  · intro c hcc hcp
    rw [set_getD hlt]
    split
    · rfl
    · exact inv.before c hcc hcp
  · rw [← inv.defers]; cases o.dst <;> rfl
  · intro j ob' mk' hj hL hcm
    by_cases hji : j = i
    · subst hji
      obtain ⟨o1, a1, a2, a3, a4⟩ := hj
      obtain ⟨o2, b1, b2, b3, b4⟩ := hmade
      obtain rfl := Option.some.inj (a1.symm.trans b1)
      rw [a4] at b4
      simp only [Option.some.injEq, Prod.mk.injEq] at b4
      obtain ⟨rfl, rfl⟩ := b4
      refine ⟨M, by simp, by rw [hM]; exact inv.step.kept.size, by rw [hM]; show _ < (w.heap.push O).size; rw [Array.size_push]; omega, hO, fun l' o' L' h1 h2 => ?_⟩
      have := inv.step.rep.size l' L' (hne l' o' L' h1 h2)
      omega
    · rw [set_getD hlt, if_neg hji] at hL
      obtain ⟨M', hM'⟩ := inv.made j ob' mk' hj hL hcm
      refine ⟨M', le _ _ hM'.lab, hM'.new, by show _ < (w.heap.push O).size; rw [Array.size_push]; have := hM'.lt; omega, ?_, fun l' o' L' h1 h2 => hM'.far l' o' L' h1 (hne l' o' L' h1 h2)⟩
      refine hM'.rel.of_block le ?_
      show (w.heap.push O)[M'.blk]? = _
      rw [Array.getElem?_push, if_neg (by have := hM'.lt; omega)]
  · intro j j' ob1 ob2 mk1 mk2 hj hj' hnej hL hL' hcm hcm' M1 M2 hM1 hM2
    change (if st0.n + j = st0.n + i then some M else ρ (st0.n + j)) = some M1 at hM1
    change (if st0.n + j' = st0.n + i then some M else ρ (st0.n + j')) = some M2 at hM2
    rw [set_getD hlt] at hL hL'
    by_cases hji : j = i
    · rw [if_pos (by omega)] at hM1
      have hji' : j' ≠ i := fun e => hnej (hji.trans e.symm)
      rw [if_neg (by omega)] at hM2
      rw [if_neg hji'] at hL'
      obtain rfl := Option.some.inj hM1
      obtain ⟨M', hM'⟩ := inv.made j' ob2 mk2 hj' hL' hcm'
      obtain rfl := Option.some.inj (hM'.lab.symm.trans hM2)
      have := hM'.lt; omega
    · rw [if_neg (by omega)] at hM1
      rw [if_neg hji] at hL
      by_cases hji' : j' = i
      · rw [if_pos (by omega)] at hM2
        obtain rfl := Option.some.inj hM2
        obtain ⟨M', hM'⟩ := inv.made j ob1 mk1 hj hL hcm
        obtain rfl := Option.some.inj (hM'.lab.symm.trans hM1)
        have := hM'.lt; omega
      · rw [if_neg (by omega)] at hM2
        rw [if_neg hji'] at hL'
        exact inv.ap j j' ob1 ob2 mk1 mk2 hj hj' hnej hL hL' hcm hcm' M1 M2 hM1 hM2
  · intro j hj hL
    rw [set_getD hlt] at hL
    split at hL
    · cases hL
    · show (if st0.n + j = st0.n + i then some M else ρ (st0.n + j)) = none
      rw [if_neg (by omega)]
      exact inv.free j hj hL
end

/-- The blocks made ahead come into the label-heap, once all that stand before p have run. -/
theorem Inv.commit (inv : Inv P G B ops N D val ρ0 st0 w0 ts0 df L p ρ a w) (run : DRun P X G self ops N st0.n D val) (h0 : (D 0).pend = []) (hall : ∀ j o, ops[j]? = some o → j < p → dkind P o.op = .alloc → L.getD j false = true) :
    Step P G B ρ0 st0 w0 ρ (layAll (D p).st (D p).pend) w ∧
      ∀ l o, (layAll (D p).st (D p).pend).h.get l = some o → (D p).st.h.get l = some o ∨ ∃ q ∈ (D p).pend, l = q.1 := by
  obtain ⟨p1, p2⟩ := pend_spec run h0 p inv.pn
  have hA : ∀ q ∈ (D p).pend, ∃ M, Ahead P B ρ (D p).st w0 w q.1 q.2 M := fun q hq => by
    obtain ⟨j, mk, e1, e2, e3, e4⟩ := p1 q hq
    rw [e1]
    obtain ⟨o, x1, x2, _⟩ := id e3
    exact inv.made j q.2 mk e3 (hall j o x1 e2 x2) e4
  have hP : (D p).pend.Pairwise (fun q q' => ∀ M M', ρ q.1 = some M → ρ q'.1 = some M' → M.blk ≠ M'.blk) := by
    refine p2.imp_of_mem fun {q q'} hq hq' hne M M' h1 h2 => ?_
    obtain ⟨j, mk, e1, e2, e3, e4⟩ := p1 q hq
    obtain ⟨j', mk', f1, f2, f3, f4⟩ := p1 q' hq'
    obtain ⟨o, x1, x2, _⟩ := id e3
    obtain ⟨o', y1, y2, _⟩ := id f3
    rw [e1] at h1
    rw [f1] at h2
    exact inv.ap j j' q.2 q'.2 mk mk' e3 f3 (fun e => hne (by rw [e1, f1, e])) (hall j o x1 e2 x2) (hall j' o' y1 f2 y2) e4 f4 M M' h1 h2
  exact Step.layAll (D p).pend inv.step hA hP
end
end Go.Vex
