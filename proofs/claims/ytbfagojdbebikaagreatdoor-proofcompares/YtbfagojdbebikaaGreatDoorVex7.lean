/- VEX, part 7: conversions, slices, maps, and all operations that call nothing. Generic in the program. -/
import Derived.Test.YtbfagojdbebikaaGreatDoorVex6
import Derived.IntWalk
import Derived.Lib.Strings
namespace Go.Vex
open Go Go.RowKit

section
variable {P : Program} {G B : Nat} {ρ : Rho} {st : St} {w : World}

/-! ### Slice expressions -/
def ORelO (ρ : Rho) : Option V → Option Value → Prop
  | none, none => True
  | some v, some x => VRel ρ v x
  | _, _ => False
theorem evO_rel (h : HRep P G B ρ st w) {ts : T V} {N : Nat} {a : Act} (ht : TRel ρ ts N a.tmps) {o : Option Operand} {v : Option V} (hv : evO G ts o = some v) : ORelO ρ v (o.map a.eval) := by
  cases o with
  | none => simp only [evO, Option.some.injEq] at hv; subst hv; trivial
  | some x =>
    simp only [evO] at hv
    cases e : ev G ts x with
    | none => simp [e] at hv
    | some u => simp [e] at hv; subst hv; exact ev_rel h ht e

theorem boundV_le {v : V} {y i : Nat} (h : boundV v y = some i) : i ≤ y := by
  unfold boundV at h
  split at h
  · split at h
    · simp only [Option.some.injEq] at h; omega
    · cases h
  · cases h
theorem loB_le {k i : Nat} {lo : Option V} (h : loB k lo = some i) : i ≤ k := by
  cases lo with
  | none => simp only [loB, Option.some.injEq] at h; omega
  | some v => exact boundV_le h
theorem boundV_mono {v : V} {y z i : Nat} (h : boundV v y = some i) (hz : y ≤ z) : boundV v z = some i := by
  unfold boundV at *
  split at h
  · split at h
    · rename_i hc
      rw [if_pos (by omega)]
      exact h
    · cases h
  · cases h

def mxS (isS : Bool) (cap : Nat) : Option Value → Sem Nat
  | some v => Instr.sliceBound v cap (if isS then .slice3Acap else .slice3Alen)
  | none => pure cap
def hiS (isS : Bool) (len cap m : Nat) : Option Value → Option Value → Sem Nat
  | some v, some _ => Instr.sliceBound v m .slice3B
  | some v, none => Instr.sliceBound v cap (if isS then .sliceAcap else .sliceAlen)
  | none, none => pure len
  | none, some _ => stuck "Slice: max without high"
def loS (three : Bool) (k : Nat) : Option Value → Sem Nat
  | some v => Instr.sliceBound v k (if three then .slice3C else .sliceB)
  | none => pure 0
theorem sliceBounds_eq (isS : Bool) (len cap : Nat) (lo hi mx : Option Value) : Instr.sliceBounds isS len cap lo hi mx =
    (do let m ← mxS isS cap mx; let h ← hiS isS len cap m hi mx; let l ← loS mx.isSome h lo; pure (l, h, m)) := by
  cases lo <;> cases hi <;> cases mx <;> rfl

theorem boundsV_ok {len cap : Nat} {lo hi mx : Option V} {lo' hi' mx' : Option Value} {r : Nat × Nat × Nat} (h : boundsV len cap lo hi mx = some r) (hl : ORelO ρ lo lo') (hh : ORelO ρ hi hi') (hm : ORelO ρ mx mx')
    (hle : len ≤ cap) (isS : Bool) : (Instr.sliceBounds isS len cap lo' hi' mx').run P w = .ok r w ∧ r.1 ≤ r.2.1 ∧ r.2.1 ≤ r.2.2 ∧ r.2.2 ≤ cap := by
  unfold boundsV at h
  rw [sliceBounds_eq]
  cases e1 : mxB cap mx with
  | none => simp [e1] at h
  | some m =>
    have hM : (mxS isS cap mx').run P w = .ok m w ∧ m ≤ cap := by
      cases mx with
      | none => cases mx' with
        | none => simp only [mxB, Option.some.injEq] at e1; subst e1; exact ⟨rfl, Nat.le_refl _⟩
        | some _ => exact hm.elim
      | some v => cases mx' with
        | none => exact hm.elim
        | some x => exact boundV_ok e1 hm _
    simp only [e1, Option.bind_some] at h
    cases e2 : hiB len cap m hi mx with
    | none => simp [e2] at h
    | some k =>
      have hH : (hiS isS len cap m hi' mx').run P w = .ok k w ∧ k ≤ m := by
        cases hi with
        | none => cases hi' with
          | some _ => exact hh.elim
          | none => cases mx with
            | some _ => simp [hiB] at e2
            | none => cases mx' with
              | some _ => exact hm.elim
              | none =>
                simp only [mxB, Option.some.injEq] at e1
                simp only [hiB, Option.some.injEq] at e2
                subst e1 e2
                exact ⟨rfl, hle⟩
        | some v => cases hi' with
          | none => exact hh.elim
          | some x => cases mx with
            | some _ => cases mx' with
              | none => exact hm.elim
              | some _ => exact boundV_ok e2 hh _
            | none => cases mx' with
              | some _ => exact hm.elim
              | none =>
                simp only [mxB, Option.some.injEq] at e1
                subst e1
                exact boundV_ok e2 hh _
      simp only [e2, Option.bind_some] at h
      cases e3 : loB k lo with
      | none => simp [e3] at h
      | some i =>
        have hL : (loS mx'.isSome k lo').run P w = .ok i w ∧ i ≤ k := by
          cases lo with
          | none => cases lo' with
            | none => simp only [loB, Option.some.injEq] at e3; subst e3; exact ⟨rfl, Nat.zero_le _⟩
            | some _ => exact hl.elim
          | some v => cases lo' with
            | none => exact hl.elim
            | some x => exact boundV_ok e3 hl _
        simp only [e3, Option.bind_some, Option.some.injEq] at h
        subst h
        refine ⟨?_, hL.2, hH.2, hM.2⟩
        simp only [Sem.run_bind, hM.1, hH.1, hL.1, Result.andThen_ok, Sem.run_pure]

/-- Bounds that hold for a length hold for every capacity above it. -/
theorem boundsN_V {len cap : Nat} {lo hi mx : Option V} {r : Nat × Nat × Option Nat} (h : boundsN len lo hi mx = some r) (hle : len ≤ cap) :
    boundsV len cap lo hi mx = some (r.1, r.2.1, r.2.2.getD cap) ∧ r.2.1 ≤ len ∧ r.1 ≤ r.2.1 ∧ ∀ m, r.2.2 = some m → m ≤ len ∧ r.2.1 ≤ m := by
  unfold boundsN at h
  unfold boundsV
  cases mx with
  | none =>
    simp only [mxN, mxB, Option.bind_some] at h ⊢
    cases e2 : hiN len hi none with
    | none => simp [e2] at h
    | some k =>
      have e2' : hiB len cap cap hi none = some k ∧ k ≤ len := by
        cases hi with
        | none => simp only [hiN, Option.some.injEq] at e2; subst e2; exact ⟨rfl, Nat.le_refl _⟩
        | some v => exact ⟨boundV_mono e2 hle, boundV_le e2⟩
      simp only [e2, e2'.1, Option.bind_some] at h ⊢
      cases e3 : loB k lo with
      | none => simp [e3] at h
      | some i =>
        simp only [e3, Option.bind_some, Option.some.injEq] at h ⊢
        subst h
        exact ⟨rfl, e2'.2, loB_le e3, by simp⟩
  | some u =>
    simp only [mxN, mxB] at h ⊢
    cases e1 : boundV u len with
    | none => simp [e1] at h
    | some m =>
      simp only [e1, boundV_mono e1 hle, Option.map_some, Option.bind_some] at h ⊢
      cases hi with
      | none => simp [hiN] at h
      | some v =>
        simp only [hiN, hiB] at h ⊢
        cases e2 : boundV v m with
        | none => simp [e2] at h
        | some k =>
          simp only [e2, Option.bind_some] at h ⊢
          cases e3 : loB k lo with
          | none => simp [e3] at h
          | some i =>
            simp only [e3, Option.bind_some, Option.some.injEq] at h ⊢
            subst h
            refine ⟨rfl, Nat.le_trans (boundV_le e2) (boundV_le e1), loB_le e3, ?_⟩
            intro m' hm'
            simp only [Option.some.injEq] at hm'
            subst hm'
            exact ⟨boundV_le e1, boundV_le e2⟩

theorem move_at (L : Loc) (off size l m : Nat) : (if m = l then L.at off else (L.at off).add (l * size)) = L.at (moveOff off size l m) := by
  unfold moveOff
  cases e : Nat.beq m l with
  | true => rw [if_pos (Nat.eq_of_beq_eq_true e)]
  | false => rw [if_neg (Nat.ne_of_beq_eq_false e), at_add]

theorem sliceV_ok {t : TypeId} {a v : V} {x : Value} {lo hi mx : Option V} {lo' hi' mx' : Option Value} (h : sliceV P t a lo hi mx = some v) (hx : VRel ρ a x) (hl : ORelO ρ lo lo') (hh : ORelO ρ hi hi') (hm : ORelO ρ mx mx') :
    ∃ r, (Instr.sliceAt t x lo' hi' mx').run P w = .ok r w ∧ VRel ρ v r := by
  unfold sliceV at h
  split at h
  · rename_i s ht
    obtain ⟨b, rfl, hb⟩ := hx
    cases mx with
    | some _ => simp at h
    | none => cases mx' with
      | some _ => exact hm.elim
      | none =>
        simp only at h
        cases e : boundsV s.length s.length lo hi none with
        | none => simp [e] at h
        | some r =>
          simp [e] at h
          subst h
          have hsz : b.size = s.length := by rw [← hb]; simp
          obtain ⟨h1, h2, h3, h4⟩ := boundsV_ok (P := P) (w := w) e hl hh (mx' := none) trivial (Nat.le_refl _) false
          refine ⟨.string (b.extract r.1 r.2.1), ?_, _, rfl, ?_⟩
          · simp only [Instr.sliceAt, Sem.run_bind, run_und ht, Result.andThen_ok, Instr.slice, Option.isSome_none, Bool.false_eq_true, if_false, hsz, h1, Sem.run_pure]
          · rw [Lib.extract_data, List.map_take, List.map_drop, hb]
  · rename_i e ht
    cases hx
    cases es : sizeV P e with
    | none => simp [es] at h
    | some size =>
      simp only [es, Option.bind_some] at h
      cases eb : boundsV 0 0 lo hi mx with
      | none => simp [eb] at h
      | some r =>
        simp [eb] at h
        subst h
        obtain ⟨h1, h2, h3, h4⟩ := boundsV_ok (P := P) (w := w) eb hl hh hm (Nat.le_refl _) true
        refine ⟨.slice none 0 0, ?_, rfl⟩
        have e1 : r.1 = 0 := by omega
        have e2 : r.2.1 = 0 := by omega
        have e3 : r.2.2 = 0 := by omega
        simp only [Instr.sliceAt, Sem.run_bind, run_und ht, Result.andThen_ok, Instr.slice, h1, run_size es, Sem.run_pure, e1, e2, e3, if_true, Nat.sub_self]
  · rename_i e l off len cap ht
    obtain ⟨L, hL, hle, rfl⟩ := hx
    cases es : sizeV P e with
    | none => simp [es] at h
    | some size =>
      simp only [es, Option.bind_some] at h
      cases eb : boundsV len cap lo hi mx with
      | none => simp [eb] at h
      | some r =>
        simp [eb] at h
        subst h
        obtain ⟨h1, h2, h3, h4⟩ := boundsV_ok (P := P) (w := w) eb hl hh hm hle true
        refine ⟨.slice (some (L.at (moveOff off size r.1 r.2.2))) (r.2.1 - r.1) (r.2.2 - r.1), ?_, L, hL, by omega, rfl⟩
        simp only [Instr.sliceAt, Sem.run_bind, run_und ht, Result.andThen_ok, Instr.slice, h1, run_size es, Sem.run_pure]
        rw [← move_at]
        congr 2
        split <;> rfl
  · rename_i e l off len u ht
    obtain ⟨L, a, c, ⟨hL, hLe⟩, hle, htot, ha, rfl⟩ := hx
    cases es : sizeV P e with
    | none => simp [es] at h
    | some size =>
      simp only [es, Option.bind_some] at h
      split at h
      · rename_i hsu
        have hsu := Nat.eq_of_beq_eq_true hsu
        subst hsu
        cases eb : boundsN len lo hi mx with
        | none => simp [eb] at h
        | some r =>
          simp only [eb, Option.bind_some] at h
          obtain ⟨b1, b2, b3, b4⟩ := boundsN_V eb hle
          obtain ⟨h1, h2, h3, h4⟩ := boundsV_ok (P := P) (w := w) b1 hl hh hm hle true
          have hrun : ∀ q, (if r.2.2.getD c = r.1 then some a else (some a : Option Addr).map (·.add (r.1 * size))) = some q →
              (Instr.sliceAt t (.slice (some a) len c) lo' hi' mx').run P w = .ok (.slice (some q) (r.2.1 - r.1) (r.2.2.getD c - r.1)) w := by
            intro q hq
            simp only [Instr.sliceAt, Sem.run_bind, run_und ht, Result.andThen_ok, Instr.slice, h1, run_size es, Sem.run_pure, hq]
          split at h
          · rename_i m em
            split at h
            · rename_i hpos
              have hpos : 0 < len := Nat.le_of_ble_eq_true hpos
              simp only [Option.some.injEq] at h
              subst h
              have ha' := ha (by omega)
              subst ha'
              refine ⟨_, hrun (L.at (moveOff off size r.1 m)) ?_, L, hL, ?_, ?_⟩
              · rw [em, Option.getD_some, ← move_at]; split <;> rfl
              · have := (b4 m em).2; omega
              · rw [em, Option.getD_some]
            · cases h
          · rename_i em
            simp only [Option.some.injEq] at h
            subst h
            rw [em, Option.getD_none] at hrun h3 h4
            by_cases hc : c = r.1
            · refine ⟨_, hrun a (by rw [if_pos hc]), L, a, c - r.1, ⟨hL, hLe⟩, by omega, ?_, fun hh => by omega, rfl⟩
              rw [← htot, hc]; simp
            · refine ⟨_, hrun (a.add (r.1 * size)) (by rw [if_neg hc]; rfl), L, a.add (r.1 * size), c - r.1, ⟨hL, hLe⟩, by omega, ?_, fun hh => ?_, rfl⟩
              · rw [← htot, Nat.sub_mul]
                have : r.1 * size ≤ c * size := Nat.mul_le_mul_right _ (by omega)
                omega
              · rw [ha (by omega), at_add]
      · cases h
  · rename_i n e l off ht
    obtain ⟨L, hL, rfl⟩ := hx
    cases es : sizeV P e with
    | none => simp [es] at h
    | some size =>
      simp only [es, Option.bind_some] at h
      cases eb : boundsV n n lo hi mx with
      | none => simp [eb] at h
      | some r =>
        simp [eb] at h
        subst h
        obtain ⟨h1, h2, h3, h4⟩ := boundsV_ok (P := P) (w := w) eb hl hh hm (Nat.le_refl _) false
        refine ⟨.slice (some (L.at (moveOff off size r.1 r.2.2))) (r.2.1 - r.1) (r.2.2 - r.1), ?_, L, hL, by omega, rfl⟩
        simp only [Instr.sliceAt, Sem.run_bind, run_und ht, Result.andThen_ok, Instr.sureAddr, h1, run_size es, Sem.run_pure]
        rw [← move_at]
  · cases h
end
end Go.Vex
