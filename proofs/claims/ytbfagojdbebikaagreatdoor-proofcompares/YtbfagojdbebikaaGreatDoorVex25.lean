/- VEX, part 25: more fuel does no harm; what a job comes to, whatever the fuel; the contract of a call. Generic in the program. -/
import Derived.Test.YtbfagojdbebikaaGreatDoorVex24
namespace Go.Vex
open Go Go.RowKit

def Le (s s' : Job → St → Option Out) : Prop := ∀ j st o, s j st = some o → s' j st = some o

section
variable {P : Program} {X : FuncId → Option Ext} {G : Nat} {s s' : Job → St → Option Out}

theorem callV_mono (h : Le s s') {f : V} {args : List V} {st : St} {r : V × St} (hv : callV X s f args st = some r) : callV X s' f args st = some r := by
  unfold callV at hv ⊢
  cases f <;> simp only at hv ⊢ <;> try (cases hv; done)
  case func f p q =>
    cases hX : X f with
    | some x => rw [hX] at hv; exact hv
    | none =>
      rw [hX] at hv
      simp only at hv ⊢
      split at hv
      · rename_i v st' e
        rw [h _ _ _ e]
        exact hv
      · cases hv
  case yield l =>
    split at hv
    · rename_i v st' e
      rw [h _ _ _ e]
      exact hv
    · cases hv

theorem stepV_mono (h : Le s s') {ts : T V} {st : St} {o : Oper} {r : V × St} (hv : stepV P X G s ts st o = some r) : stepV P X G s' ts st o = some r := by
  unfold stepV at hv ⊢
  split at hv
  · obtain ⟨args, e1, e2⟩ := bind2 hv
    rw [e1]
    simp only [Option.bind_some]
    split at e2
    · exact e2
    · obtain ⟨f', e3, e4⟩ := bind2 e2
      simp only [e3, Option.bind_some]
      exact callV_mono h e4
    · cases e2
  · exact hv

theorem opsV_mono (h : Le s s') {all : Array Oper} {N : Nat} : ∀ {l : List Oper} {ts : T V} {st : St} {r : T V × St}, opsV P X G s all N l ts st = some r → opsV P X G s' all N l ts st = some r
  | [], _, _, _, hv => hv
  | o :: l, ts, st, r, hv => by
    simp only [opsV] at hv ⊢
    cases hw : wantedV all ts N o with
    | false => rw [hw] at hv; exact opsV_mono h hv
    | true =>
      rw [hw] at hv
      simp only at hv ⊢
      split at hv
      · rename_i v st' e
        rw [stepV_mono h e]
        exact opsV_mono h hv
      · cases hv

theorem dstepV_mono (h : Le s s') {all : Array Oper} {N n0 i : Nat} {o : Oper} {d : DS} {r : DS × V} (hv : dstepV P X G s all N n0 i o d = some r) : dstepV P X G s' all N n0 i o d = some r := by
  unfold dstepV at hv ⊢
  split at hv
  · exact hv
  · exact hv
  · obtain ⟨a, e1, e2⟩ := map2 hv
    rw [stepV_mono h e1]
    exact congrArg some e2
  · exact hv
  · obtain ⟨a, e1, e2⟩ := map2 hv
    rw [stepV_mono h e1]
    exact congrArg some e2

theorem drunV_mono (h : Le s s') {all : Array Oper} {N n0 : Nat} : ∀ {l : List Oper} {i : Nat} {d : DS} {r : List (DS × V) × DS}, drunV P X G s all N n0 i l d = some r → drunV P X G s' all N n0 i l d = some r
  | [], _, _, _, hv => hv
  | o :: l, i, d, r, hv => by
    simp only [drunV] at hv ⊢
    obtain ⟨a, e1, hv⟩ := bind2 hv
    obtain ⟨b, e2, hv⟩ := map2 hv
    rw [dstepV_mono h e1, Option.bind_some, drunV_mono h e2]
    exact congrArg some hv

theorem test_mono (h : Le s s') {o : Oper} {d : DS} {v : V} {st : St} (hv : dynV.test P X G s o d v st = true) : dynV.test P X G s' o d v st = true := by
  unfold dynV.test at hv ⊢
  split at hv
  · rename_i v' s2 e
    rw [stepV_mono h e]
    exact hv
  · cases hv

theorem dynV_mono (h : Le s s') {ms : T Nat} {i : Nat} {o : Oper} {d : DS} {v : V} : ∀ {l : List (Nat × St)} {own : Bool}, dynV P X G s ms i o d v own l = true → dynV P X G s' ms i o d v own l = true
  | [], _, _ => rfl
  | (p, st) :: l, own, hv => by
    simp only [dynV] at hv ⊢
    cases hb : Nat.blt p i with
    | true =>
      simp only [hb, Bool.and_eq_true] at hv ⊢
      refine ⟨?_, dynV_mono h hv.2⟩
      cases hw : waits ms p i with
      | true => rfl
      | false => rw [hw] at hv; exact test_mono h hv.1
    | false =>
      simp only [hb, Bool.and_eq_true] at hv ⊢
      refine ⟨?_, ?_⟩
      · cases own with
        | true => exact test_mono h hv.1
        | false => rfl
      · cases hw : waits ms i p with
        | true => rfl
        | false => rw [hw] at hv; exact dynV_mono h hv.2

theorem dynAll_mono (h : Le s s') {all : Array Oper} {N : Nat} {ms : T Nat} {sts : List (Nat × St)} : ∀ {l : List Oper} {i : Nat} {rs : List (DS × V)}, dynAll P X G s all N ms sts i l rs = true → dynAll P X G s' all N ms sts i l rs = true
  | [], _, _, _ => rfl
  | _ :: _, _, [], _ => rfl
  | o :: l, i, (d, v) :: rs, hv => by
    simp only [dynAll, Bool.and_eq_true] at hv ⊢
    refine ⟨?_, dynAll_mono h hv.2⟩
    have h1 := hv.1
    split at h1
    · rename_i e1 e2
      exact dynV_mono h h1
    · rfl

theorem drawV_mono (h : Le s s') {all : Array Oper} {N : Nat} {l : List Oper} {ts : T V} {st : St} {r : T V × St} (hv : drawV P X G s all N l ts st = some r) : drawV P X G s' all N l ts st = some r := by
  unfold drawV at hv ⊢
  obtain ⟨ms, e1, hv⟩ := bind2 hv
  obtain ⟨b, e2, hv⟩ := bind2 hv
  rw [e1, Option.bind_some, drunV_mono h e2, Option.bind_some]
  split at hv
  · rename_i hd
    rw [dynAll_mono h hd]
    exact hv
  · cases hv

theorem body_mono (h : Le s s') : Le (body P X G s) (body P X G s') := by
  intro j st o hv
  cases j with
  | code c fr =>
    cases c <;> simp only [body] at hv ⊢ <;> try (first | exact hv | (cases hv; done))
    case seq a b =>
      split at hv
      · rename_i fr' st' e
        rw [h _ _ _ e]
        exact h _ _ _ hv
      · rename_i hno
        rw [h _ _ _ hv]
        split
        · rename_i fr' st' e
          rw [e] at hv
          exact absurd hv (hno _ _)
        · rfl
    case cond c a b =>
      split at hv
      · exact h _ _ _ hv
      · exact h _ _ _ hv
      · cases hv
    case block id b =>
      split at hv
      · rename_i i fr' st' e
        rw [h _ _ _ e]
        exact hv
      · rename_i hno
        rw [h _ _ _ hv]
        split
        · rename_i i fr' st' e
          rw [e] at hv
          exact absurd hv (hno _ _ _)
        · rfl
    case loop b =>
      split at hv
      · rename_i fr' st' e
        rw [h _ _ _ e]
        exact h _ _ _ hv
      · rename_i hno
        rw [h _ _ _ hv]
        split
        · rename_i fr' st' e
          rw [e] at hv
          exact absurd hv (hno _ _)
        · rfl
    case region id ops draw =>
      cases draw with
      | false =>
        simp only at hv ⊢
        split at hv
        · rename_i ts st' e
          rw [opsV_mono h e]
          exact hv
        · cases hv
      | true =>
        simp only at hv ⊢
        split at hv
        · rename_i ts st' e
          rw [drawV_mono h e]
          exact hv
        · cases hv
    case rangeFunc g ps as_ b =>
      obtain ⟨f, e1, hv⟩ := bind2 hv
      rw [e1, Option.bind_some]
      split at hv
      · rename_i f p q
        obtain ⟨a, e2, hv⟩ := bind2 hv
        rw [e2, Option.bind_some]
        try simp only at hv ⊢
        cases hX : X f with
        | some x => rw [hX] at hv; cases hv
        | none =>
          rw [hX] at hv
          simp only at hv ⊢
          split at hv
          · rename_i v st1 e3
            rw [h _ _ _ e3]
            simp only
            split at hv
            · rename_i s1 pend ts N ps' as' b' d' e4
              cases s1 <;> simp only at hv ⊢ <;> try (cases hv; done)
              all_goals
                cases pend with
                | none => exact hv
                | some c => exact h _ _ _ hv
            · cases hv
          · cases hv
      · cases hv
  | call f args =>
    simp only [body] at hv ⊢
    split at hv
    · split at hv
      · split at hv
        · rename_i e fr st' e1
          rw [h _ _ _ e1]
          exact hv
        · cases hv
      · cases hv
    · cases hv
  | yield l args =>
    simp only [body] at hv ⊢
    split at hv
    · split at hv
      · split at hv
        · rename_i fr st1 e2
          rw [h _ _ _ e2]
          simp only
          split at hv
          · split at hv
            · rename_i e fr' st2 e4
              rw [h _ _ _ e4]
              exact hv
            · cases hv
          · cases hv
        · cases hv
      · cases hv
    · cases hv

theorem run_succ : ∀ n, Le (run P X G n) (run P X G (n + 1))
  | 0 => fun j st o hv => by cases hv
  | n + 1 => body_mono (run_succ n)
theorem run_mono {n m : Nat} (h : n ≤ m) : Le (run P X G n) (run P X G m) := by
  induction h with
  | refl => exact fun _ _ _ hv => hv
  | step _ ih => exact fun j st o hv => run_succ _ j st o (ih j st o hv)

/-- What a job comes to. -/
def Goes (P : Program) (X : FuncId → Option Ext) (G : Nat) (j : Job) (st : St) (o : Out) : Prop := ∃ n, run P X G n j st = some o

/-- The program's variables alone. -/
def St.start (G : Nat) : St := ⟨.leaf, G⟩
def Rho.start (G : Nat) : Rho := fun l => if l < G then some ⟨l, 0, 0, 0⟩ else none
theorem start_rep {G : Nat} {w : World} (hG : G ≤ w.heap.size) : HRep P G w.heap.size (Rho.start G) (St.start G) w := by
  refine ⟨fun l o hl => ?_, fun l l' o o' L L' hl => ?_, fun l hl => ?_, fun l L hl => ?_, fun g hg => ⟨⟨g, 0, 0, 0⟩, by simp [Rho.start, hg], rfl, rfl⟩, Nat.le_refl _⟩
  · simp only [St.start, T.get_leaf] at hl; cases hl
  · simp only [St.start, T.get_leaf] at hl; cases hl
  · simp only [St.start] at hl
    unfold Rho.start
    rw [if_neg (by omega)]
  · unfold Rho.start at hl
    split at hl
    · rw [← Option.some.inj hl]; simp only; omega
    · cases hl

theorem Goes.callsIn (fit : Fit P X G) {B : Nat} {f : FuncId} {args : List V} {st st' : St} {v : V} (h : Goes P X G (.call f args) st (.val v st')) {ρ : Rho} {w : World} (hr : HRep P G B ρ st w) {xs : List Value} (hx : VRels ρ args xs) :
    Calls P f xs.toArray w (ValPost P G B ρ st w v st') := by
  obtain ⟨n, hn⟩ := h
  exact callsIn_wide.1 ((run_sound (B := B) fit n).call hn hr hx (m := 0))

/-- A call without arguments, of which the evaluator says a bool. -/
theorem Goes.closed (fit : Fit P X G) {f : FuncId} {st' : St} {b : Bool} (h : Goes P X G (.call f []) (St.start G) (.val (.bool b) st')) {w : World} (hG : G ≤ w.heap.size) :
    Calls P f #[] w fun e w' => e = .returned (.bool b) ∧ Below w.heap.size w w' := by
  refine Calls.mono (h.callsIn fit (start_rep hG) .nil) fun e w' he => ?_
  obtain ⟨r, ρ', rfl, hr, hs⟩ := he
  exact ⟨by rw [show r = .bool b from hr], hs.below (start_rep hG)⟩
end
end Go.Vex
