/- VEX, part 16: one operation, and a region in order. Generic in the program. -/
import Derived.Test.YtbfagojdbebikaaGreatDoorVex15
namespace Go.Vex
open Go Go.RowKit

section
variable {P : Program} {X : FuncId → Option Ext} {G B : Nat} {ρ : Rho} {st : St} {w : World}

/-- What an operation of the machine's must show: it comes to a value, by itself or by a call, that fits. -/
def StepOK (P : Program) (G B : Nat) (ρ : Rho) (st : St) (w : World) (m : Nat) (s : Sem Next) (v : V) (st' : St) : Prop :=
  (∃ r w' ρ', (s.run P w = .ok (.value r) w' ∨ (s.run P w = .ok .skip w' ∧ r = undef)) ∧ VRel ρ' v r ∧ Step P G B ρ st w ρ' st' w') ∨
  (∃ f args, s.run P w = .ok (.enter f args) w ∧ CallsIn Fence.wide m P f args w (ValPost P G B ρ st w v st')) ∨
  (∃ l f tmps as_ b, s.run P w = .ok (.round l f tmps as_ b) w ∧ RoundIn Fence.wide m P l f tmps as_ b w (ValPost P G B ρ st w v st'))

theorem stepV_ok (fit : Fit P X G) {self : Job → St → Option Out} (snd : Sound P G B self) (h : HRep P G B ρ st w) {ts : T V} {N : Nat} {a : Act} (ht : TRel ρ ts N a.tmps) {o : Oper} {v : V} {st' : St}
    (hv : stepV P X G self ts st o = some (v, st')) (m : Nat) : StepOK P G B ρ st w m (execOp a.eval o) v st' := by
  unfold stepV at hv
  split at hv
  · rename_i c hop
    obtain ⟨args, e1, e2⟩ := bind2 hv
    have hargs := evs_rel h ht e1
    have hre : (c.args.map a.eval) = (c.args.toList.map a.eval).toArray := by rw [← Array.toList_map, Array.toArray_toList]
    split at e2
    · rename_i b hb
      have hk := builtinV_ok (ty := o.type) (cons := c.args.map fun | .const _ => true | _ => false) h e2 hargs
      obtain ⟨r, w', ρ', h1, h2, h3⟩ := hk
      refine .inl ⟨r, w', ρ', ?_, h2, h3⟩
      have hrun : (execOp a.eval o).run P w = (builtin b c.argTypes o.type (c.args.map fun | .const _ => true | _ => false) (c.args.map a.eval)).run P w := by
        unfold execOp
        simp only [hop, resolve, hb, Sem.run_bind, Sem.run_pure, Result.andThen_ok, invoke]
        rfl
      rw [hrun, hre]
      rw [Array.toArray_toList] at h1
      exact h1
    · rename_i f hf
      obtain ⟨fv, e3, e4⟩ := bind2 e2
      have hfv := ev_rel h ht e3
      unfold callV at e4
      split at e4
      · rename_i g first captured
        obtain ⟨p, q, hx, hp, hq⟩ := hfv
        have hrun : (execOp a.eval o).run P w = (callFunc g (p ++ c.args.toList.map a.eval ++ q).toArray).run P w := by
          unfold execOp
          simp only [hop, resolve, hf, hx, Deferred.ofValue, Sem.run_bind, Sem.run_pure, Result.andThen_ok, invoke, hre]
          congr 2
          simp
        have hall : VRels ρ (first ++ args ++ captured) (p ++ c.args.toList.map a.eval ++ q) := (hp.append hargs).append hq
        split at e4
        · rename_i x hX
          by_cases hkn : ∃ b, x = .known b
          · obtain ⟨b, rfl⟩ := hkn
            obtain ⟨⟨fn, hf1, hf2⟩, hcalls⟩ := fit.known g b hX
            unfold extV at e4
            split at e4 <;> try (first | (rename_i hc _; cases hc; done) | (cases e4; done) | contradiction)
            rename_i b' hc hnil
            obtain rfl := Ext.known.inj hc
            simp only [Option.some.injEq, Prod.mk.injEq] at e4
            obtain ⟨rfl, rfl⟩ := e4
            rw [hnil] at hall
            have hz : p ++ c.args.toList.map a.eval ++ q = [] := hall
            refine .inr (.inl ⟨g, _, by rw [hrun]; exact callFunc_enter fit hf1 hf2 _, ?_⟩)
            rw [hz]
            have hG : G ≤ w.heap.size := by
              rcases Nat.eq_zero_or_pos G with h0 | h0
              · omega
              · obtain ⟨L, hL, hb, _⟩ := h.glob (G - 1) (by omega)
                have := h.size _ _ hL
                omega
            refine callsIn_wide.2 (Calls.mono (hcalls w hG) fun e w' he => ?_)
            obtain ⟨rfl, hbl⟩ := he
            exact ⟨_, ρ, rfl, rfl, Step.below_same h hbl⟩
          obtain ⟨r, w', ρ', h1, h2, h3⟩ := extV_ok h (fun b hb => hkn ⟨b, hb⟩) e4 hall
          refine .inl ⟨r, w', ρ', .inl ?_, h2, h3⟩
          rw [hrun, fit.ext g x hX fun b hb => hkn ⟨b, hb⟩]
          simp only [Sem.run_bind, h1, Result.andThen_ok, Sem.run_pure]
        · split at e4
          · rename_i v2 st2 hs
            simp only [Option.some.injEq, Prod.mk.injEq] at e4
            obtain ⟨rfl, rfl⟩ := e4
            have hc := snd.call hs h hall (m := m)
            refine .inr (.inl ⟨g, _, ?_, hc⟩)
            rw [hrun]
            obtain ⟨fn, hf1, hf2⟩ := snd.enters hs
            exact callFunc_enter fit hf1 hf2 _
          · cases e4
      · rename_i l
        obtain ⟨L, hL, hx⟩ := hfv
        split at e4
        · rename_i v2 st2 hs
          simp only [Option.some.injEq, Prod.mk.injEq] at e4
          obtain ⟨rfl, rfl⟩ := e4
          obtain ⟨fn, tmps, as_, b, y1, y2⟩ := snd.yield hs h hargs hL (m := m)
          refine .inr (.inr ⟨L.blk, fn, tmps, as_, b, ?_, y2⟩)
          unfold execOp
          simp only [hop, resolve, hf, hx, Deferred.ofValue, Sem.run_bind, Sem.run_pure, Result.andThen_ok, invoke, hre]
          simpa using y1
        · cases e4
      · cases e4
    · cases e2
  · obtain ⟨r, w', ρ', h1, h2, h3⟩ := opV_ok h ht hv
    exact .inl ⟨r, w', ρ', h1, h2, h3⟩

theorem not_defer {ts : T V} {o : Oper} {self : Job → St → Option Out} {v : V} {st' : St} (hv : stepV P X G self ts st o = some (v, st')) : ∀ c, o.op ≠ .defer c := by
  intro c hc
  unfold stepV at hv
  rw [hc] at hv
  simp only [opV] at hv
  cases hv

/-- One operation, in the walk's terms. -/
theorem wp_stepV (fit : Fit P X G) {self : Job → St → Option Out} (snd : Sound P G B self) (h : HRep P G B ρ st w) {ts : T V} {N : Nat} {a : Act} (ht : TRel ρ ts N a.tmps) {o : Oper} {v : V} {st' : St}
    (hv : stepV P X G self ts st o = some (v, st')) (rb : Option Nat) (m : Nat) {K : Act → World → Prop} {Q : Exit → Act → World → Prop}
    (hK : ∀ r ρ' w', VRel ρ' v r → Step P G B ρ st w ρ' st' w' → K (a.put o.dst r) w') : o.wpIn (FF rb) m P a w K Q := by
  refine ⟨fun _ _ => trivial, ?_⟩
  rw [Oper.semAt_eq _ _ _ (not_defer hv)]
  rcases stepV_ok fit snd h ht hv (m - 1) with ⟨r, w', ρ', h1, h2, h3⟩ | ⟨f, args, h1, h2⟩ | ⟨l, f, tmps, as_, b, h1, h2⟩
  · rcases h1 with h1 | ⟨h1, rfl⟩
    · rw [h1]; exact hK _ _ _ h2 h3
    · rw [h1]; exact hK _ _ _ h2 h3
  · rw [h1]
    refine ⟨fun hd => (by cases hd), callsIn_FF (CallsIn.mono h2 fun e w' he => ?_)⟩
    obtain ⟨r, ρ', rfl, hr, hs⟩ := he
    exact hK _ _ _ hr hs
  · rw [h1]
    refine ⟨fun hd => (by cases hd), roundIn_FF (RoundIn.mono h2 fun e w' he => ?_)⟩
    obtain ⟨r, ρ', rfl, hr, hs⟩ := he
    exact hK _ _ _ hr hs

theorem TRel.put {ts : T V} {N : Nat} {a : Act} (ht : TRel ρ ts N a.tmps) {v : V} {r : Value} (hv : VRel ρ v r) (d : Option Tmp) : TRel ρ (putD ts N d v) N (a.put d r).tmps := by
  cases d with
  | none => exact ht
  | some d =>
    refine ⟨by simp [Act.put, ht.1], fun t => ?_⟩
    simp only [Act.put, putD]
    cases hb : Nat.ble N d with
    | true =>
      have hb := Nat.le_of_ble_eq_true hb
      have : a.tmps.setIfInBounds d r = a.tmps := Array.setIfInBounds_eq_of_size_le (by rw [ht.1]; exact hb)
      simp only [this]
      exact ht.2 t
    | false =>
      have hb : d < a.tmps.size := by
        rw [ht.1]
        rcases Nat.lt_or_ge d N with hh | hh
        · exact hh
        · rw [Nat.ble_eq_true_of_le hh] at hb; cases hb
      simp only [T.get_put]
      by_cases htd : t = d
      · subst htd
        rw [if_pos rfl]
        simp [Array.getD_eq_getD_getElem?, Array.getElem?_setIfInBounds_self_of_lt hb]
        exact hv
      · rw [if_neg htd]
        have := ht.2 t
        simpa [Array.getD_eq_getD_getElem?, Array.getElem?_setIfInBounds_ne (Ne.symm htd)] using this

theorem yieldedV_ok {ops : Array Oper} {ts : T V} {N : Nat} {a : Act} (ht : TRel ρ ts N a.tmps) (j : Nat) : yielded ops a.tmps j = yieldedV ops ts N j := by
  unfold yielded yieldedV
  cases e : (ops[j]?).bind (·.dst) with
  | none => rfl
  | some t =>
    simp only [Option.bind_some]
    cases hb : Nat.ble N t with
    | true =>
      have hb := Nat.le_of_ble_eq_true hb
      rw [Array.getElem?_eq_none (by rw [ht.1]; exact hb)]
    | false =>
      have hb : t < a.tmps.size := by
        rw [ht.1]
        rcases Nat.lt_or_ge t N with hh | hh
        · exact hh
        · rw [Nat.ble_eq_true_of_le hh] at hb; cases hb
      have hr := ht.2 t
      rw [Array.getD_eq_getD_getElem?, Array.getElem?_eq_getElem hb] at hr
      rw [Array.getElem?_eq_getElem hb]
      simp only [Option.getD_some] at hr ⊢
      generalize a.tmps[t] = x at hr
      cases hv : (ts.get t).getD undefV with
      | bool b => rw [hv] at hr; have hr : x = .bool b := hr; subst hr; rfl
      | slice l o n c =>
        rw [hv] at hr
        cases c with
        | k c => obtain ⟨_, _, _, rfl⟩ := hr; rfl
        | u es => obtain ⟨_, _, _, _, _, _, _, rfl⟩ := hr; rfl
      | int => rw [hv] at hr; have hr : x = _ := hr; subst hr; rfl
      | str => rw [hv] at hr; obtain ⟨_, rfl, _⟩ := hr; rfl
      | ptr => rw [hv] at hr; obtain ⟨_, _, rfl⟩ := hr; rfl
      | nptr => rw [hv] at hr; have hr : x = _ := hr; subst hr; rfl
      | nslice => rw [hv] at hr; have hr : x = _ := hr; subst hr; rfl
      | map => rw [hv] at hr; obtain ⟨_, _, rfl⟩ := hr; rfl
      | nmap => rw [hv] at hr; have hr : x = _ := hr; subst hr; rfl
      | func => rw [hv] at hr; obtain ⟨_, _, rfl, _⟩ := hr; rfl
      | yield => rw [hv] at hr; obtain ⟨_, _, rfl⟩ := hr; rfl
      | nfunc => rw [hv] at hr; have hr : x = _ := hr; subst hr; rfl
      | iface => rw [hv] at hr; obtain ⟨_, rfl, _⟩ := hr; rfl
      | niface => rw [hv] at hr; have hr : x = _ := hr; subst hr; rfl
      | agg => rw [hv] at hr; obtain ⟨_, rfl, _⟩ := hr; rfl
      | tup => rw [hv] at hr; obtain ⟨_, rfl, _⟩ := hr; rfl

theorem wantedV_ok {ops : Array Oper} {ts : T V} {N : Nat} {a : Act} (ht : TRel ρ ts N a.tmps) (o : Oper) : Region.wanted o (yielded ops a.tmps) = wantedV ops ts N o := by
  unfold Region.wanted wantedV
  cases o.guard with
  | none => rfl
  | some p =>
    obtain ⟨j, want⟩ := p
    simp only [yieldedV_ok ht j]
    cases yieldedV ops ts N j with
    | none => rfl
    | some b => simp

/-- The operations of a region, in order. -/
theorem opsV_ok (fit : Fit P X G) {self : Job → St → Option Out} (snd : Sound P G B self) {all : Array Oper} {N : Nat} (rb : Option Nat) (m : Nat) {Q : Exit → Act → World → Prop} :
    ∀ (l : List Oper) (k : Nat) {ρ : Rho} {st : St} {w : World} {ts ts' : T V} {st' : St} {a : Act}, (∀ j, l[j]? = all[k + j]?) → HRep P G B ρ st w → TRel ρ ts N a.tmps → opsV P X G self all N l ts st = some (ts', st') →
    (∀ ρ' w' a', Step P G B ρ st w ρ' st' w' → TRel ρ' ts' N a'.tmps → a'.defers = a.defers → Q .normal a' w') → wpOpsIn (FF rb) m P all Q (List.range' k l.length) a w
  | [], k, ρ, st, w, ts, ts', st', a, hl, h, ht, hv, hQ => by
    simp only [opsV, Option.some.injEq, Prod.mk.injEq] at hv
    obtain ⟨rfl, rfl⟩ := hv
    exact hQ ρ w a (.refl h) ht rfl
  | o :: l, k, ρ, st, w, ts, ts', st', a, hl, h, ht, hv, hQ => by
    have h0 : all[k]? = some o := by rw [← Nat.add_zero k, ← hl 0]; rfl
    have hl' : ∀ j, l[j]? = all[k + 1 + j]? := fun j => by rw [show k + 1 + j = k + (j + 1) by omega, ← hl (j + 1)]; rfl
    rw [List.length_cons, List.range'_succ]
    simp only [wpOpsIn, h0]
    simp only [opsV] at hv
    rw [wantedV_ok ht]
    cases hw : wantedV all ts N o with
    | false =>
      simp only [hw] at hv
      simp only [Bool.false_eq_true, if_false]
      refine ⟨fun _ _ => trivial, ?_⟩
      refine opsV_ok fit snd rb m l (k + 1) hl' h (ht.put undef_rel o.dst) hv fun ρ' w' a' hs ht' hd => hQ ρ' w' a' hs ht' ?_
      rw [hd]
      cases o.dst <;> rfl
    | true =>
      simp only [hw] at hv
      simp only [if_true]
      split at hv
      · rename_i v st1 hs1
        refine wp_stepV fit snd h ht hs1 rb m fun r ρ1 w1 hr hst => ?_
        refine opsV_ok fit snd rb m l (k + 1) hl' hst.rep ((ht.mono hst.le).put hr o.dst) hv fun ρ' w' a' hs ht' hd => hQ ρ' w' a' (hst.trans hs) ht' ?_
        rw [hd]
        cases o.dst <;> rfl
      · cases hv
end
end Go.Vex
