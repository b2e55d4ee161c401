/- VEX, part 19: a region that draws its order: what the walk in the text's order shows. Generic in the program. -/
import Derived.Test.YtbfagojdbebikaaGreatDoorVex18
namespace Go.Vex
open Go Go.RowKit

section
variable {P : Program} {X : FuncId → Option Ext} {G : Nat} {self : Job → St → Option Out} {ops : Array Oper} {N n0 : Nat}

def IsChain (P : Program) (ops : Array Oper) (c : Nat) : Prop := ∃ o, ops[c]? = some o ∧ dkind P o.op = .chain

structure DRun (P : Program) (X : FuncId → Option Ext) (G : Nat) (slf : Job → St → Option Out) (ops : Array Oper) (N n0 : Nat) (D : Nat → DS) (val : Nat → V) : Prop where
  step : ∀ i o, ops[i]? = some o → dstepV P X G slf ops N n0 i o (D i) = some (D (i + 1), val i)
  dyn : ∀ i o, ops[i]? = some o → dkind P o.op = .quiet → wantedV ops (D i).ts N o = true → ∀ p, (IsChain P ops p ∨ p = ops.size) →
    (p < i ∧ Anc ops p i) ∨ (∃ c, IsChain P ops c ∧ i < c ∧ c < p ∧ Anc ops i c) ∨ ∃ s2, stepV P X G slf (D i).ts (D p).st o = some (val i, s2)

def dAt (rs : List (DS × V)) (f : DS) (k : Nat) : DS := ((rs[k]?).map (·.1)).getD f
def vAt (rs : List (DS × V)) (k : Nat) : V := ((rs[k]?).map (·.2)).getD undefV
theorem dAt_cons (r : DS × V) (rs : List (DS × V)) (f : DS) (k : Nat) : dAt (r :: rs) f (k + 1) = dAt rs f k := rfl
theorem dAt_zero (r : DS × V) (rs : List (DS × V)) (f : DS) : dAt (r :: rs) f 0 = r.1 := rfl
theorem dAt_nil (f : DS) (k : Nat) : dAt [] f k = f := by simp [dAt]

theorem drunV_spec : ∀ (l : List Oper) (i : Nat) (d : DS) (rs : List (DS × V)) (f : DS), drunV P X G self ops N n0 i l d = some (rs, f) →
    rs.length = l.length ∧ dAt rs f 0 = d ∧ ∀ k o, l[k]? = some o → dstepV P X G self ops N n0 (i + k) o (dAt rs f k) = some (dAt rs f (k + 1), vAt rs k)
  | [], i, d, rs, f, h => by
    simp only [drunV, Option.some.injEq, Prod.mk.injEq] at h
    obtain ⟨rfl, rfl⟩ := h
    exact ⟨rfl, rfl, fun k o hk => by simp at hk⟩
  | o :: l, i, d, rs, f, h => by
    simp only [drunV] at h
    obtain ⟨r, h1, h⟩ := bind2 h
    obtain ⟨q, h2, h⟩ := map2 h
    simp only [Prod.mk.injEq] at h
    obtain ⟨rfl, rfl⟩ := h
    obtain ⟨a, b, c⟩ := drunV_spec l (i + 1) r.1 q.1 q.2 h2
    refine ⟨by simp [a], rfl, fun k o' hk => ?_⟩
    cases k with
    | zero =>
      simp only [List.getElem?_cons_zero, Option.some.injEq] at hk
      subst hk
      rw [dAt_zero, dAt_cons, b]
      exact h1
    | succ k =>
      simp only [List.getElem?_cons_succ] at hk
      have := c k o' hk
      rw [show i + 1 + k = i + (k + 1) by omega] at this
      exact this

theorem dstepV_ts {i : Nat} {o : Oper} {d d' : DS} {v : V} (h : dstepV P X G self ops N n0 i o d = some (d', v)) : d'.ts = putD d.ts N o.dst v := by
  unfold dstepV at h
  split at h
  · simp only [Option.some.injEq, Prod.mk.injEq] at h
    obtain ⟨rfl, rfl⟩ := h
    rfl
  · simp only [Option.some.injEq, Prod.mk.injEq] at h
    obtain ⟨rfl, rfl⟩ := h
    rfl
  all_goals
    obtain ⟨r, _, e⟩ := map2 h
    simp only [Prod.mk.injEq] at e
    obtain ⟨rfl, rfl⟩ := e
    rfl

theorem dstepV_st {i : Nat} {o : Oper} {d d' : DS} {v : V} (hk : dkind P o.op ≠ .chain) (h : dstepV P X G self ops N n0 i o d = some (d', v)) : d'.st = d.st := by
  unfold dstepV at h
  split at h
  · contradiction
  · simp only [Option.some.injEq, Prod.mk.injEq] at h
    obtain ⟨rfl, rfl⟩ := h
    rfl
  · obtain ⟨r, _, e⟩ := map2 h
    simp only [Prod.mk.injEq] at e
    obtain ⟨rfl, rfl⟩ := e
    rfl
  · obtain ⟨r, _, e⟩ := map2 h
    simp only [Prod.mk.injEq] at e
    obtain ⟨rfl, rfl⟩ := e
    rfl
  · contradiction

theorem DRun.const {D : Nat → DS} {val : Nat → V} (h : ∀ i o, ops[i]? = some o → dstepV P X G self ops N n0 i o (D i) = some (D (i + 1), val i)) {i : Nat} :
    ∀ k, i + k ≤ ops.size → (∀ c, i ≤ c → c < i + k → ¬ IsChain P ops c) → (D (i + k)).st = (D i).st
  | 0, _, _ => rfl
  | k + 1, hk, hc => by
    have ih := DRun.const h k (by omega) fun c h1 h2 => hc c h1 (by omega)
    have hlt : i + k < ops.size := by omega
    have ho : ops[i + k]? = some ops[i + k] := Array.getElem?_eq_getElem hlt
    rw [← ih]
    exact dstepV_st (fun hch => hc (i + k) (by omega) (by omega) ⟨_, ho, hch⟩) (h (i + k) _ ho)

theorem stagesV_spec : ∀ (l : List Oper) (i : Nat) (rs : List (DS × V)) (f : DS), (∀ k, l[k]? = ops[i + k]?) → rs.length = l.length → ∀ p, i ≤ p → (IsChain P ops p ∨ p = i + l.length) →
    ∃ l1 l2, stagesV P i l rs f = l1 ++ (p, (dAt rs f (p - i)).st) :: l2 ∧ (∀ q ∈ l1, i ≤ q.1 ∧ q.1 < p ∧ IsChain P ops q.1) ∧ ∀ c, i ≤ c → c < p → IsChain P ops c → ∃ s, (c, s) ∈ l1
  | [], i, rs, f, hl, hr, p, hp, hq => by
    obtain rfl := List.length_eq_zero_iff.1 hr
    have hpi : p = i := by
      rcases hq with ⟨o, ho, _⟩ | h
      · have := hl (p - i)
        rw [show i + (p - i) = p by omega, ho] at this
        cases this
      · simpa using h
    subst hpi
    exact ⟨[], [], by simp [stagesV, dAt_nil], (fun q hq => by cases hq), fun c h1 h2 => by omega⟩
  | o :: l, i, [], f, hl, hr, p, hp, hq => by simp at hr
  | o :: l, i, r :: rs, f, hl, hr, p, hp, hq => by
    have h0 : ops[i]? = some o := by rw [← Nat.add_zero i, ← hl 0]; rfl
    have hl' : ∀ k, l[k]? = ops[i + 1 + k]? := fun k => by rw [show i + 1 + k = i + (k + 1) by omega, ← hl (k + 1)]; rfl
    have hr' : rs.length = l.length := by simpa using hr
    by_cases hip : p = i
    · subst hip
      rcases hq with ⟨o', ho', hch⟩ | h
      · obtain rfl := Option.some.inj (h0.symm.trans ho')
        refine ⟨[], stagesV P (p + 1) l rs f, ?_, (fun q hq => by cases hq), fun c h1 h2 => by omega⟩
        simp [stagesV, hch, dAt_zero]
      · simp at h
    · obtain ⟨l1, l2, e1, e2, e3⟩ := stagesV_spec l (i + 1) rs f hl' hr' p (by omega) (hq.imp id fun h => by simp at h; omega)
      have hdp : dAt (r :: rs) f (p - i) = dAt rs f (p - (i + 1)) := by rw [show p - i = (p - (i + 1)) + 1 by omega, dAt_cons]
      rw [hdp]
      by_cases hch : dkind P o.op = .chain
      · refine ⟨(i, r.1.st) :: l1, l2, by simp [stagesV, hch, e1], ?_, ?_⟩
        · intro q hq
          rcases List.mem_cons.1 hq with rfl | hq
          · exact ⟨Nat.le_refl _, by simp only; omega, o, h0, hch⟩
          · obtain ⟨a, b, c⟩ := e2 q hq; exact ⟨by omega, b, c⟩
        · intro c h1 h2 h3
          by_cases hci : c = i
          · exact ⟨_, by rw [hci]; exact List.mem_cons_self⟩
          · obtain ⟨s, hs⟩ := e3 c (by omega) h2 h3
            exact ⟨s, List.mem_cons_of_mem _ hs⟩
      · refine ⟨l1, l2, ?_, ?_, ?_⟩
        · rw [← e1]
          simp only [stagesV]
        · intro q hq
          obtain ⟨a, b, c⟩ := e2 q hq; exact ⟨by omega, b, c⟩
        · intro c h1 h2 h3
          by_cases hci : c = i
          · obtain ⟨o', ho', hch'⟩ := h3
            rw [hci] at ho'
            obtain rfl := Option.some.inj (h0.symm.trans ho')
            exact absurd hch' hch
          · exact e3 c (by omega) h2 h3

theorem dynV_spec {ms : T Nat} {i : Nat} {o : Oper} {d : DS} {v : V} {p : Nat} {st : St} {l2 : List (Nat × St)} : ∀ (l1 : List (Nat × St)) (own : Bool), dynV P X G self ms i o d v own (l1 ++ (p, st) :: l2) = true →
    dynV.test P X G self o d v st = true ∨ (p < i ∧ waits ms p i = true) ∨ (i ≤ p ∧ own = false ∧ ∀ q ∈ l1, q.1 < i) ∨ ∃ q ∈ l1, i ≤ q.1 ∧ waits ms i q.1 = true
  | [], own, h => by
    simp only [List.nil_append, dynV] at h
    cases hb : Nat.blt p i with
    | true =>
      simp only [hb, Bool.and_eq_true] at h
      have hlt : p < i := by rw [Nat.blt_eq] at hb; exact hb
      cases hw : waits ms p i with
      | true => exact .inr (.inl ⟨hlt, rfl⟩)
      | false => rw [hw] at h; exact .inl h.1
    | false =>
      simp only [hb, Bool.and_eq_true] at h
      have hge : i ≤ p := by
        rcases Nat.lt_or_ge p i with hh | hh
        · rw [← Nat.blt_eq, hb] at hh; cases hh
        · exact hh
      cases own with
      | true => exact .inl h.1
      | false => exact .inr (.inr (.inl ⟨hge, rfl, fun q hq => by cases hq⟩))
  | (q, s) :: l1, own, h => by
    simp only [List.cons_append, dynV] at h
    cases hb : Nat.blt q i with
    | true =>
      simp only [hb, Bool.and_eq_true] at h
      have hlt : q < i := by rw [Nat.blt_eq] at hb; exact hb
      rcases dynV_spec l1 own h.2 with a | a | ⟨a, b, c⟩ | ⟨x, a, b⟩
      · exact .inl a
      · exact .inr (.inl a)
      · refine .inr (.inr (.inl ⟨a, b, fun x hx => ?_⟩))
        rcases List.mem_cons.1 hx with rfl | hx
        · exact hlt
        · exact c x hx
      · exact .inr (.inr (.inr ⟨x, List.mem_cons_of_mem _ a, b⟩))
    | false =>
      simp only [hb, Bool.and_eq_true] at h
      have hge : i ≤ q := by
        rcases Nat.lt_or_ge q i with hh | hh
        · rw [← Nat.blt_eq, hb] at hh; cases hh
        · exact hh
      cases hw : waits ms i q with
      | true => exact .inr (.inr (.inr ⟨(q, s), List.mem_cons_self, hge, hw⟩))
      | false =>
        rw [hw] at h
        rcases dynV_spec l1 true h.2 with a | a | ⟨a, b, c⟩ | ⟨x, a, b⟩
        · exact .inl a
        · exact .inr (.inl a)
        · cases b
        · exact .inr (.inr (.inr ⟨x, List.mem_cons_of_mem _ a, b⟩))

theorem dynAll_spec {ms : T Nat} {sts : List (Nat × St)} {f : DS} : ∀ (l : List Oper) (i : Nat) (rs : List (DS × V)), rs.length = l.length → dynAll P X G self ops N ms sts i l rs = true →
    ∀ k o, l[k]? = some o → dkind P o.op = .quiet → wantedV ops (dAt rs f k).ts N o = true → dynV P X G self ms (i + k) o (dAt rs f k) (vAt rs k) false sts = true
  | [], i, rs, hr, h, k, o, hk, _, _ => by simp at hk
  | o :: l, i, [], hr, h, k, o', hk, _, _ => by simp at hr
  | o :: l, i, (d, v) :: rs, hr, h, k, o', hk, hq, hw => by
    simp only [dynAll, Bool.and_eq_true] at h
    cases k with
    | zero =>
      simp only [List.getElem?_cons_zero, Option.some.injEq] at hk
      subst hk
      have h1 := h.1
      have hw' : wantedV ops d.ts N o = true := hw
      rw [hq, hw'] at h1
      exact h1
    | succ k =>
      simp only [List.getElem?_cons_succ] at hk
      have := dynAll_spec (f := f) l (i + 1) rs (by simpa using hr) h.2 k o' hk hq hw
      rw [show i + 1 + k = i + (k + 1) by omega] at this
      exact this

theorem drun_ok {ms : T Nat} (ok : DOK P ops ms) {d : DS} {rs : List (DS × V)} {f : DS} (h : drunV P X G self ops N n0 0 ops.toList d = some (rs, f))
    (hd : dynAll P X G self ops N ms (stagesV P 0 ops.toList rs f) 0 ops.toList rs = true) :
    DRun P X G self ops N n0 (dAt rs f) (vAt rs) ∧ dAt rs f 0 = d ∧ dAt rs f ops.size = f := by
  obtain ⟨a, b, c⟩ := drunV_spec _ _ _ _ _ h
  have hl : ∀ k, ops.toList[k]? = ops[0 + k]? := fun k => by rw [Nat.zero_add, Array.getElem?_toList]
  have hstep : ∀ i o, ops[i]? = some o → dstepV P X G self ops N n0 i o (dAt rs f i) = some (dAt rs f (i + 1), vAt rs i) := fun i o ho => by
    have := c i o (by rw [Array.getElem?_toList]; exact ho)
    rw [Nat.zero_add] at this
    exact this
  refine ⟨⟨hstep, ?_⟩, b, ?_⟩
  · intro i o ho hq hw p hp
    have hin : i < ops.size := (Array.getElem?_eq_some_iff.1 ho).1
    have hdy := dynAll_spec (f := f) ops.toList 0 rs a hd i o (by rw [Array.getElem?_toList]; exact ho) hq hw
    rw [Nat.zero_add] at hdy
    have hp' : IsChain P ops p ∨ p = 0 + ops.toList.length := hp.imp id fun h => by simpa using h
    obtain ⟨l1, l2, e1, e2, e3⟩ := stagesV_spec ops.toList 0 rs f hl a p (Nat.zero_le _) hp'
    rw [Nat.sub_zero] at e1
    rw [e1] at hdy
    rcases dynV_spec l1 false hdy with t | ⟨t1, t2⟩ | ⟨t1, _, t3⟩ | ⟨q, q1, q2, q3⟩
    · refine .inr (.inr ?_)
      unfold dynV.test at t
      split at t
      · rename_i v' s2 hs
        rw [V.same_eq _ _ t]
        exact ⟨s2, hs⟩
      · cases t
    · exact .inl ⟨t1, ok.masks _ _ t2⟩
    · refine .inr (.inr ?_)
      have hpn : p ≤ ops.size := by
        rcases hp with ⟨o', ho', _⟩ | h
        · exact Nat.le_of_lt (Array.getElem?_eq_some_iff.1 ho').1
        · omega
      have hconst : (dAt rs f p).st = (dAt rs f i).st := by
        have := DRun.const hstep (i := i) (p - i) (by omega) fun c h1 h2 hc => by
          obtain ⟨s, hs⟩ := e3 c (Nat.zero_le _) (by omega) hc
          have := t3 _ hs
          simp only at this
          omega
        rw [show i + (p - i) = p by omega] at this
        exact this
      have hs := hstep i o ho
      unfold dstepV at hs
      rw [hw, hq] at hs
      obtain ⟨r, r1, r2⟩ := map2 hs
      simp only [Prod.mk.injEq] at r2
      rw [hconst, ← r2.2]
      exact ⟨r.2, r1⟩
    · obtain ⟨_, hqp, hqc⟩ := e2 q q1
      refine .inr (.inl ⟨q.1, hqc, ?_, hqp, ok.masks _ _ q3⟩)
      rcases Nat.lt_or_ge i q.1 with hh | hh
      · exact hh
      · obtain ⟨o', ho', hch⟩ := hqc
        obtain rfl : i = q.1 := by omega
        obtain rfl := Option.some.inj (ho.symm.trans ho')
        rw [hq] at hch
        cases hch
  · unfold dAt
    rw [List.getElem?_eq_none (by rw [a]; simp)]
    rfl
end
end Go.Vex
