/- VEX, part 22: a region that draws its order: the end. Generic in the program. -/
import Derived.Test.YtbfagojdbebikaaGreatDoorVex21
namespace Go.Vex
open Go Go.RowKit

theorem layAll_n : ∀ (ps : List (Nat × HObj)) (st : St), (layAll st ps).n = st.n
  | [], _ => rfl
  | q :: ps, st => by rw [layAll, layAll_n ps]; rfl

theorem countP_lt {p q : Nat → Bool} : ∀ (l : List Nat), (∀ x ∈ l, q x = true → p x = true) → ∀ i ∈ l, p i = true → q i = false → l.countP q < l.countP p
  | [], _, i, hi, _, _ => by cases hi
  | x :: l, h, i, hi, hp, hq => by
    have hmono : l.countP q ≤ l.countP p := List.countP_mono_left fun y hy => h y (List.mem_cons_of_mem _ hy)
    rw [List.countP_cons, List.countP_cons]
    rcases List.mem_cons.1 hi with rfl | hi
    · rw [hp, hq]; simp; omega
    · have ih := countP_lt l (fun y hy => h y (List.mem_cons_of_mem _ hy)) i hi hp hq
      have := h x List.mem_cons_self
      cases hqx : q x with
      | false => simp; omega
      | true => rw [this hqx]; simp; omega

def unl (ops : Array Oper) (L : Array Bool) : Nat := (List.range ops.size).countP fun i => !L.getD i false

section
variable {P : Program} {X : FuncId → Option Ext} {G B : Nat} {self : Job → St → Option Out} {ops : Array Oper} {N : Nat} {ms : T Nat} {D : Nat → DS} {val : Nat → V}
  {ρ0 ρ ρ' : Rho} {st0 : St} {w0 w w' : World} {ts0 : T V} {df : List Deferred} {L : Array Bool} {p : Nat} {a : Act}

theorem unl_set (hs : L.size = ops.size) {i : Nat} (hi : i < ops.size) (hl : L.getD i false = false) : unl ops (L.setIfInBounds i true) < unl ops L := by
  have hlt : i < L.size := by omega
  refine countP_lt _ (fun x _ hx => ?_) i (List.mem_range.2 hi) (by rw [hl]; rfl) (by rw [set_getD hlt, if_pos rfl]; rfl)
  rw [set_getD hlt] at hx
  split at hx
  · cases hx
  · exact hx

/-- An operation of weight has run. -/
theorem Inv.next_chain (inv : Inv P G B ops N D val ρ0 st0 w0 ts0 df L p ρ a w) (ok : DOK P ops ms) (run : DRun P X G self ops N st0.n D val) (h0 : (D 0).pend = []) {i : Nat} {o : Oper} (ho : ops[i]? = some o) (hi : L.getD i false = false)
    (hr : ∀ e ∈ o.after, Region.binds .any e = true → L.getD e.on false = true) (hc : dkind P o.op = .chain) (s : Step P G B ρ (layAll (D i).st (D i).pend) w ρ' (D (i + 1)).st w') {r : Value} (hv : VRel ρ' (val i) r) :
    ∃ p', Inv P G B ops N D val ρ0 st0 w0 ts0 df (L.setIfInBounds i true) p' ρ' (a.put o.dst r) w' := by
  obtain rfl := inv.chain_here ok ho hi hr hc
  have hlt := inv.lt ho
  have hin : p < ops.size := (Array.getElem?_eq_some_iff.1 ho).1
  have hpc : IsChain P ops p := ⟨o, ho, hc⟩
  obtain ⟨c1, c2⟩ := inv.commit run h0 fun j oj hj hjp hk => anc_ready inv.closed ho hr (ok.hard j p oj o hjp hj ho hc (by rw [hk]; simp)) (.inl rfl)
  obtain ⟨p1, _⟩ := pend_spec run h0 p inv.pn
  obtain ⟨p', q1, q2, q3, q4⟩ := next_stage P ops (ops.size - (p + 1)) (p + 1) (by omega)
  have hst : (D p').st = (D (p + 1)).st := by
    have := DRun.const run.step (i := p + 1) (p' - (p + 1)) (by omega) fun c h1 h2 => q4 c h1 (by omega)
    rw [show p + 1 + (p' - (p + 1)) = p' by omega] at this
    exact this
  have hnle : st0.n + ops.size ≤ (D (p + 1)).st.n := by
    have h1 := s.n
    rw [layAll_n] at h1
    exact Nat.le_trans inv.nle h1
  have hback : ∀ j ob mk, Made P G ops N D j ob mk → (L.setIfInBounds p true).getD j false = true → (∀ c, j < c → c < p' → ¬ IsChain P ops c) → L.getD j false = true ∧ p < j := fun j ob mk hj hL hcm => by
    rw [set_getD hlt] at hL
    have hjp : j ≠ p := fun e => by
      subst e
      obtain ⟨o', x1, x2, _⟩ := hj
      obtain rfl := Option.some.inj (ho.symm.trans x1)
      rw [hc] at x2
      cases x2
    rw [if_neg hjp] at hL
    refine ⟨hL, ?_⟩
    rcases Nat.lt_or_ge p j with h | h
    · exact h
    · exact absurd hpc (hcm p (by omega) (by omega))
  have hlab : ∀ j, j < ops.size → ∀ M, ρ' (st0.n + j) = some M → ρ (st0.n + j) = some M := fun j hj M hM => s.old _ (by rw [layAll_n]; have := inv.nle; omega) M hM
  refine ⟨p', by rw [Array.size_setIfInBounds]; exact inv.size, inv.closed_next ho hi hr, q2, q3, ?_, ?_, ?_, ?_, inv.tmps_next ok ho hi s.le hv, ?_, ?_, ?_, ?_⟩
  · rw [set_getD hlt, if_neg (by omega)]
    rcases q3 with hch | h
    · obtain ⟨o', ho', hc'⟩ := hch
      cases hL : L.getD p' false with
      | false => rfl
      | true =>
        have := anc_listed inv.closed (ok.hard p p' o o' (by omega) ho ho' hc' (by rw [hc]; simp)) hL
        rw [hi] at this
        cases this
    · rw [Array.getD_eq_getD_getElem?, Array.getElem?_eq_none (by rw [inv.size]; omega)]
      rfl
  · intro c hcc hcp
    rw [set_getD hlt]
    split
    · rfl
    · rename_i hne
      rcases Nat.lt_or_ge c p with h | h
      · exact inv.before c hcc h
      · exact absurd hcc (q4 c (by omega) hcp)
  · rw [hst]; exact c1.trans s
  · rw [hst]; exact hnle
  · rw [← inv.defers]; cases o.dst <;> rfl
  · intro j ob mk hj hL hcm
    obtain ⟨hL', hpj⟩ := hback j ob mk hj hL hcm
    obtain ⟨M, hM⟩ := inv.made j ob mk hj hL' (fun c h1 h2 => by omega)
    refine ⟨M, ?_⟩
    rw [hst]
    refine Ahead.step (st := layAll (D p).st (D p).pend) ⟨hM.lab, hM.new, hM.lt, hM.rel, fun l' o' M' h1 h2 => ?_⟩ s
    rcases c2 l' o' h1 with h1 | ⟨q, x1, rfl⟩
    · exact hM.far l' o' M' h1 h2
    · obtain ⟨j', mk', e1, e2, e3, e4⟩ := p1 q x1
      obtain ⟨oj', y1, y2, _⟩ := id e3
      rw [e1] at h2
      exact inv.ap j' j q.2 ob mk' mk e3 hj (by omega) (anc_ready inv.closed ho hr (ok.hard j' p oj' o e2 y1 ho hc (by rw [y2]; simp)) (.inl rfl)) hL' e4 (fun c h1 h2 => by omega) M' M h2 hM.lab
  · intro j j' ob ob' mk mk' hj hj' hne hL hL' hcm hcm' M M' hM hM'
    have b1 : j < ops.size := by obtain ⟨_, x, _⟩ := hj; exact (Array.getElem?_eq_some_iff.1 x).1
    have b2 : j' < ops.size := by obtain ⟨_, x, _⟩ := hj'; exact (Array.getElem?_eq_some_iff.1 x).1
    obtain ⟨u1, u2⟩ := hback j ob mk hj hL hcm
    obtain ⟨v1, v2⟩ := hback j' ob' mk' hj' hL' hcm'
    exact inv.ap j j' ob ob' mk mk' hj hj' hne u1 v1 (fun c h1 h2 => by omega) (fun c h1 h2 => by omega) M M' (hlab j b1 M hM) (hlab j' b2 M' hM')
  · intro j hj hL
    rw [set_getD hlt] at hL
    split at hL
    · cases hL
    · have hn := inv.free j hj hL
      cases hx : ρ' (st0.n + j) with
      | none => rfl
      | some M => rw [hlab j hj M hx] at hn; cases hn

/-- All has run. -/
theorem Inv.done (inv : Inv P G B ops N D val ρ0 st0 w0 ts0 df L p ρ a w) (ok : DOK P ops ms) (run : DRun P X G self ops N st0.n D val) (h0 : (D 0).pend = []) (h0t : (D 0).ts = ts0) (hr : Region.ready .any ops L = []) :
    Step P G B ρ0 st0 w0 ρ (layAll (D ops.size).st (D ops.size).pend) w ∧ TRel ρ (D ops.size).ts N a.tmps ∧ a.defers = df := by
  have hall : ∀ i, i < ops.size → L.getD i false = true := by
    intro i
    induction i using Nat.strongRecOn with
    | _ i ih =>
      intro hi
      cases hL : L.getD i false with
      | true => rfl
      | false =>
        have ho : ops[i]? = some ops[i] := Array.getElem?_eq_getElem hi
        have hlt : i < L.size := by rw [inv.size]; exact hi
        have : i ∈ Region.ready .any ops L := by
          refine mem_ready.2 ⟨?_, _, ho, fun e he hb => ?_⟩
          · rw [Array.getD_eq_getD_getElem?, Array.getElem?_eq_getElem hlt] at hL ⊢
            exact hL
          · have := ok.dep i _ e ho (by simpa using he) hb
            exact ih e.on this (by omega)
        rw [hr] at this
        cases this
  have hp : p = ops.size := by
    rcases inv.stage with ⟨o, ho, _⟩ | h
    · have := hall p (Array.getElem?_eq_some_iff.1 ho).1
      rw [inv.here] at this
      cases this
    · exact h
  subst hp
  obtain ⟨c1, _⟩ := inv.commit run h0 fun j oj hj hjp _ => hall j hjp
  refine ⟨c1, inv.tmps.congr fun t => ?_, inv.defers⟩
  rw [← D_ts run h0t t ops.size (Nat.le_refl _)]
  exact tsOf_same _ fun j o hj _ _ _ => hall j hj

theorem not_defer_alloc {ts : T V} {o : Op} {r : HObj × (Nat → V)} (h : allocV P G ts o = some r) : ∀ c, o ≠ .defer c := by
  intro c hc
  rw [hc] at h
  simp only [allocV] at h
  cases h

theorem dkind_alloc {ts : T V} {o : Op} {r : HObj × (Nat → V)} (h : allocV P G ts o = some r) : dkind P o = .alloc := by
  cases o <;> simp only [allocV] at h <;> first | rfl | (cases h; done)

/-- Whatever the order drawn. -/
theorem draw_any (fit : Fit P X G) (snd : Sound P G B self) (ok : DOK P ops ms) (run : DRun P X G self ops N st0.n D val) (h0 : (D 0).pend = []) (h0t : (D 0).ts = ts0) (rb : Option Nat) (m : Nat)
    {Q : Exit → Act → World → Prop} (hQ : ∀ ρ' w' a', Step P G B ρ0 st0 w0 ρ' (layAll (D ops.size).st (D ops.size).pend) w' → TRel ρ' (D ops.size).ts N a'.tmps → a'.defers = df → Q .normal a' w') :
    ∀ (fuel : Nat) (L : Array Bool) (p : Nat) (ρ : Rho) (a : Act) (w : World), Inv P G B ops N D val ρ0 st0 w0 ts0 df L p ρ a w → unl ops L ≤ fuel → wpAnyIn (FF rb) m P .any ops Q fuel L a w := by
  intro fuel
  induction fuel with
  | zero =>
    intro L p ρ a w inv hu
    have hready : Region.ready .any ops L = [] := by
      rw [List.eq_nil_iff_forall_not_mem]
      intro i hi
      obtain ⟨h1, o, ho, _⟩ := mem_ready.1 hi
      have hin : i < ops.size := (Array.getElem?_eq_some_iff.1 ho).1
      have hlt : i < L.size := by rw [inv.size]; exact hin
      have hl : L.getD i false = false := by
        rw [Array.getD_eq_getD_getElem?, Array.getElem?_eq_getElem hlt] at h1 ⊢
        exact h1
      have := unl_set inv.size hin hl
      omega
    obtain ⟨a1, a2, a3⟩ := inv.done ok run h0 h0t hready
    exact ⟨hready, hQ ρ w a a1 a2 a3⟩
  | succ fuel ih =>
    intro L p ρ a w inv hu
    refine ⟨fun hready => ?_, fun i hi => ?_⟩
    · obtain ⟨a1, a2, a3⟩ := inv.done ok run h0 h0t hready
      exact hQ ρ w a a1 a2 a3
    · obtain ⟨h1, o, ho, hr⟩ := mem_ready.1 hi
      have hin : i < ops.size := (Array.getElem?_eq_some_iff.1 ho).1
      have hlt : i < L.size := by rw [inv.size]; exact hin
      have hl : L.getD i false = false := by
        rw [Array.getD_eq_getD_getElem?, Array.getElem?_eq_getElem hlt] at h1 ⊢
        exact h1
      have hu' : unl ops (L.setIfInBounds i true) ≤ fuel := by have := unl_set inv.size hin hl; omega
      have hag := inv.agree ok run ho hl hr h0t
      have hwant : Region.wanted o (yielded ops a.tmps) = wantedV ops (D i).ts N o := (wantedV_ok inv.tmps o).trans (wantedV_congr hag)
      have hstep := run.step i o ho
      unfold wpOpIn
      simp only [ho]
      rw [hwant]
      cases hw : wantedV ops (D i).ts N o with
      | false =>
        simp only [Bool.false_eq_true, if_false]
        refine ⟨fun _ _ => trivial, ?_⟩
        have hnm : ∀ ob mk, ¬ Made P G ops N D i ob mk := fun ob mk ⟨o', x1, x2, x3, x4⟩ => by
          obtain rfl := Option.some.inj (ho.symm.trans x1)
          rw [hw] at x3
          cases x3
        by_cases hch : dkind P o.op = .chain
        · have hval : D (i + 1) = ⟨putD (D i).ts N o.dst undefV, layAll (D i).st (D i).pend, []⟩ ∧ val i = undefV := by
            unfold dstepV at hstep
            rw [hw, hch] at hstep
            simp only [Option.some.injEq, Prod.mk.injEq] at hstep
            exact ⟨hstep.1.symm, hstep.2.symm⟩
          obtain rfl := inv.chain_here ok ho hl hr hch
          obtain ⟨c1, _⟩ := inv.commit run h0 fun j oj hj hjp hk => anc_ready inv.closed ho hr (ok.hard j p oj o hjp hj ho hch (by rw [hk]; simp)) (.inl rfl)
          obtain ⟨p', inv'⟩ := inv.next_chain ok run h0 ho hl hr hch (ρ' := ρ) (w' := w) (by rw [hval.1]; exact .refl c1.rep) (r := undef) (by rw [hval.2]; exact undef_rel)
          exact ih _ p' ρ _ w inv' hu'
        · have hval : val i = undefV := by
            unfold dstepV at hstep
            rw [hw] at hstep
            split at hstep
            · rename_i hk; exact absurd hk hch
            · simp only [Option.some.injEq, Prod.mk.injEq] at hstep
              exact hstep.2.symm
            all_goals (rename_i hh _; cases hh)
          exact ih _ p ρ _ w (inv.next_quiet ok ho hl hr hch hnm (.refl inv.step.rep) (r := undef) (by rw [hval]; exact undef_rel)) hu'
      | true =>
        simp only [if_true]
        cases hk : dkind P o.op with
        | quiet =>
          have hnm : ∀ ob mk, ¬ Made P G ops N D i ob mk := fun ob mk ⟨o', x1, x2, x3, x4⟩ => by
            obtain rfl := Option.some.inj (ho.symm.trans x1)
            rw [hk] at x2
            cases x2
          rcases run.dyn i o ho hk hw p inv.stage with ⟨d1, d2⟩ | ⟨c, d1, d2, d3, d4⟩ | ⟨s2, d1⟩
          · have := anc_ready inv.closed ho hr d2 (.inl rfl)
            rw [inv.here] at this
            cases this
          · have := anc_listed inv.closed d4 (inv.before c d1 d3)
            rw [hl] at this
            cases this
          · obtain rfl := quiet_same hk d1
            rw [← stepV_congr hag.ev] at d1
            exact wp_stepV fit snd inv.step.rep inv.tmps d1 rb m fun r ρ1 w1 hv hs => ih _ p ρ1 _ w1 (inv.next_quiet ok ho hl hr (by rw [hk]; simp) hnm hs hv) hu'
        | alloc =>
          unfold dstepV at hstep
          rw [hw, hk] at hstep
          obtain ⟨⟨ob, mk⟩, e1, e2⟩ := map2 hstep
          simp only [Prod.mk.injEq] at e2
          have hmade : Made P G ops N D i ob mk := ⟨o, ho, hk, hw, e1⟩
          rw [← allocV_congr hag.ev] at e1
          obtain ⟨r, O, M, l1, l2, l3, l4⟩ := alloc_ok inv.step.rep inv.tmps e1
          have hnone := inv.free i hin hl
          have le : ρ.le (fun m => if m = st0.n + i then some M else ρ m) := fun m L hm => by
            have : m ≠ st0.n + i := fun e => by rw [e, hnone] at hm; cases hm
            simp [this, hm]
          obtain ⟨v1, v2⟩ := l4 _ (st0.n + i) le (by simp)
          refine ⟨fun _ _ => trivial, ?_⟩
          rw [Oper.semAt_eq _ _ _ (not_defer_alloc e1), l2]
          exact ih _ p _ _ _ (inv.next_alloc ok ho hl hr hk hmade l1 v2 (by rw [← e2.2]; exact v1)) hu'
        | chain =>
          unfold dstepV at hstep
          rw [hw, hk] at hstep
          obtain ⟨⟨v, s1⟩, e1, e2⟩ := map2 hstep
          simp only [Prod.mk.injEq] at e2
          obtain rfl := inv.chain_here ok ho hl hr hk
          obtain ⟨c1, _⟩ := inv.commit run h0 fun j oj hj hjp hk' => anc_ready inv.closed ho hr (ok.hard j p oj o hjp hj ho hk (by rw [hk']; simp)) (.inl rfl)
          rw [← stepV_congr hag.ev] at e1
          refine wp_stepV fit snd c1.rep inv.tmps e1 rb m fun r ρ1 w1 hv hs => ?_
          have hs' : s1 = (D (p + 1)).st := by rw [← e2.1]
          obtain ⟨p', inv'⟩ := inv.next_chain ok run h0 ho hl hr hk (ρ' := ρ1) (w' := w1) (hs' ▸ hs) (r := r) (by rw [← e2.2]; exact hv)
          exact ih _ p' ρ1 _ w1 inv' hu'

/-- A region that draws its order. -/
theorem drawV_ok (fit : Fit P X G) (snd : Sound P G B self) (rb : Option Nat) (m : Nat) {Q : Exit → Act → World → Prop} {id : Nat} {ts ts' : T V} {st st' : St} (h : HRep P G B ρ st w) (ht : TRel ρ ts N a.tmps)
    (hv : drawV P X G self ops N ops.toList ts st = some (ts', st'))
    (hQ : ∀ ρ' w' a', Step P G B ρ st w ρ' st' w' → TRel ρ' ts' N a'.tmps → a'.defers = a.defers → Q .normal a' w') : (Code.region id ops true).wpIn (FF rb) m P Q a w := by
  unfold drawV at hv
  obtain ⟨ms, h1, hv⟩ := bind2 hv
  obtain ⟨⟨rs, f⟩, h2, hv⟩ := bind2 hv
  split at hv
  · rename_i hd
    simp only [Option.some.injEq, Prod.mk.injEq] at hv
    obtain ⟨rfl, rfl⟩ := hv
    have ok := dstat_ok h1
    obtain ⟨run, z0, zf⟩ := drun_ok ok h2 hd
    refine wpIn_region_any fit.mixed ?_
    obtain ⟨p, q1, q2, q3, q4⟩ := next_stage P ops ops.size 0 (Nat.zero_add _)
    have hget : ∀ j, (Array.replicate ops.size false).getD j false = false := fun j => by
      rw [Array.getD_eq_getD_getElem?, Array.getElem?_replicate]
      split <;> rfl
    have hst : (dAt rs f p).st = ⟨st.h, st.n + ops.size⟩ := by
      have := DRun.const run.step (i := 0) p (by omega) fun c h1 h2 => q4 c h1 (by omega)
      rw [Nat.zero_add, z0] at this
      rw [this]
      simp
    refine draw_any (D := dAt rs f) (val := vAt rs) (ρ0 := ρ) (st0 := st) (w0 := w) (ts0 := ts) (df := a.defers) fit snd ok run (by rw [z0]) (by rw [z0]) rb m (fun ρ' w' a' s t d => ?_) ops.size _ p ρ a _
      ⟨by simp, fun k o e _ hk => (by rw [hget] at hk; cases hk), q2, q3, hget p, fun c hc hcp => absurd hc (q4 c (Nat.zero_le _) hcp), ?_, by rw [hst]; exact Nat.le_refl _, ?_, rfl,
        fun j ob mk _ hj => (by rw [hget] at hj; cases hj), fun j j' ob ob' mk mk' _ _ _ hj => (by rw [hget] at hj; cases hj), fun j hj _ => h.fresh _ (Nat.le_add_right _ _)⟩ ?_
    · rw [zf] at s t
      exact hQ ρ' w' a' s t d
    · rw [hst]
      exact (Step.drew h _).trans (Step.bump (h.drew _) _)
    · refine ht.congr fun t => ?_
      have := tsOf_stay (ops := ops) (N := N) (val := vAt rs) (ts0 := ts) (S := fun i => (Array.replicate ops.size false).getD i false) (t := t) (i := 0) ops.size fun j o _ _ _ _ _ => hget j
      rw [Nat.zero_add] at this
      rw [this]
      rfl
    · unfold unl
      exact Nat.le_trans (List.countP_le_length) (by simp)
  · cases hv
end
end Go.Vex
