/- VEX, part 6: operators, conversions, slices, maps: the evaluator's are the model's. Generic in the program. -/
import Derived.Test.YtbfagojdbebikaaGreatDoorVex5
namespace Go.Vex
open Go Go.RowKit

section
variable {P : Program} {G B : Nat} {ρ : Rho} {st : St} {w : World}

theorem run_binOp_ref {op : BinOp} {t : TypeId} {x y : Value} (h1 : ∀ k a, x ≠ .int k a) (h2 : ∀ k a, x ≠ .float k a) (h3 : ∀ k a b, x ≠ .complex k a b) (h4 : ∀ a, x ≠ .string a)
    (hop : op = .eql) {r : Bool} (h : (Op.equal t x y).run P w = .ok r w) : (binOp op t x y).run P w = .ok (.bool r) w := by
  subst hop
  unfold binOp
  cases x <;> first
    | (simp [h]; done)
    | exact absurd rfl (h1 _ _)
    | exact absurd rfl (h2 _ _)
    | exact absurd rfl (h3 _ _ _)
    | exact absurd rfl (h4 _)
theorem run_binOp_refn {op : BinOp} {t : TypeId} {x y : Value} (h1 : ∀ k a, x ≠ .int k a) (h2 : ∀ k a, x ≠ .float k a) (h3 : ∀ k a b, x ≠ .complex k a b) (h4 : ∀ a, x ≠ .string a)
    (hop : op = .neq) {r : Bool} (h : (Op.equal t x y).run P w = .ok r w) : (binOp op t x y).run P w = .ok (.bool (!r)) w := by
  subst hop
  unfold binOp
  cases x <;> first
    | (simp [h]; done)
    | exact absurd rfl (h1 _ _)
    | exact absurd rfl (h2 _ _)
    | exact absurd rfl (h3 _ _ _)
    | exact absurd rfl (h4 _)

theorem str_append {a b : ByteArray} : (a ++ b).data.toList.map UInt8.toNat = a.data.toList.map UInt8.toNat ++ b.data.toList.map UInt8.toNat := by
  simp [ByteArray.data_append]

theorem rel_notint {a : V} {x : Value} (h : VRel ρ a x) (hn : ∀ k n, a ≠ .int k n) (hs : ∀ s, a ≠ .str s) :
    (∀ k n, x ≠ .int k n) ∧ (∀ k n, x ≠ .float k n) ∧ (∀ k n m, x ≠ .complex k n m) ∧ (∀ s, x ≠ .string s) := by
  cases a with
  | int k n => exact absurd rfl (hn k n)
  | str s => exact absurd rfl (hs s)
  | slice l o n c => cases c with
    | u es => obtain ⟨_, _, _, _, _, _, _, rfl⟩ := h; simp
    | k c => obtain ⟨_, _, _, rfl⟩ := h; simp
  | bool => cases h; simp
  | ptr => obtain ⟨_, _, rfl⟩ := h; simp
  | nptr => cases h; simp
  | nslice => cases h; simp
  | map => obtain ⟨_, _, rfl⟩ := h; simp
  | nmap => cases h; simp
  | func => obtain ⟨_, _, rfl, _⟩ := h; simp
  | yield => obtain ⟨_, _, rfl⟩ := h; simp
  | nfunc => cases h; simp
  | iface => obtain ⟨_, rfl, _⟩ := h; simp
  | niface => cases h; simp
  | agg cs => obtain ⟨_, rfl, _⟩ := h; simp
  | tup => obtain ⟨_, rfl, _⟩ := h; simp

theorem binV_ok {op : BinOp} {t : TypeId} {xo yo : Operand} {a b v : V} {x y : Value} (h : binV P op t (isConstB xo) (isConstB yo) a b = some v) (hx : VRel ρ a x) (hy : VRel ρ b y) :
    ∃ r, (do eqGuard op t xo yo x y; binOp op t x y : Sem Value).run P w = .ok r w ∧ VRel ρ v r := by
  unfold binV at h
  split at h
  · rename_i k i j n
    cases hx
    cases hy
    have hg : (eqGuard op t xo yo (.int k i) (.int j n)).run P w = .ok () w := run_guard (by intro h; cases h) (by intro p q h; cases h)
    simp only [Sem.run_bind, hg, Result.andThen_ok]
    split at h
    · split at h
      · cases h
      · rename_i hn
        simp only [Option.some.injEq] at h; subst h
        exact ⟨_, by simp [binOp, Op.shift, hn], rfl⟩
    · split at h
      · cases h
      · rename_i hn
        simp only [Option.some.injEq] at h; subst h
        exact ⟨_, by simp [binOp, Op.shift, hn], rfl⟩
    · rename_i n1 n2
      split at h
      · rename_i hk
        subst hk
        split at h
        · simp only [Option.some.injEq] at h; subst h; exact ⟨_, by simp [binOp, Op.intArith], rfl⟩
        · simp only [Option.some.injEq] at h; subst h; exact ⟨_, by simp [binOp, Op.intArith], rfl⟩
        · simp only [Option.some.injEq] at h; subst h; exact ⟨_, by simp [binOp, Op.intArith], rfl⟩
        · split at h
          · cases h
          · rename_i hz; simp only [Option.some.injEq] at h; subst h; exact ⟨_, by simp [binOp, Op.intDiv, hz], rfl⟩
        · split at h
          · cases h
          · rename_i hz; simp only [Option.some.injEq] at h; subst h; exact ⟨_, by simp [binOp, Op.intDiv, hz], rfl⟩
        · simp only [Option.some.injEq] at h; subst h; exact ⟨_, by simp [binOp, Op.intCmp], rfl⟩
        · simp only [Option.some.injEq] at h; subst h; exact ⟨_, by simp [binOp, Op.intCmp], rfl⟩
        · simp only [Option.some.injEq] at h; subst h; exact ⟨_, by simp [binOp, Op.intCmp], rfl⟩
        · simp only [Option.some.injEq] at h; subst h; exact ⟨_, by simp [binOp, Op.intCmp], rfl⟩
        · simp only [Option.some.injEq] at h; subst h; exact ⟨_, by simp [binOp, Op.intCmp], rfl⟩
        · simp only [Option.some.injEq] at h; subst h; exact ⟨_, by simp [binOp, Op.intCmp], rfl⟩
        · simp only [Option.some.injEq] at h; subst h; exact ⟨_, by simp [binOp, Op.intBits], rfl⟩
        · simp only [Option.some.injEq] at h; subst h; exact ⟨_, by simp [binOp, Op.intBits], rfl⟩
        · simp only [Option.some.injEq] at h; subst h; exact ⟨_, by simp [binOp, Op.intBits], rfl⟩
        · cases h
      · cases h
  · rename_i s u
    obtain ⟨sa, rfl, hsa⟩ := hx
    obtain ⟨ua, rfl, hua⟩ := hy
    have hg : (eqGuard op t xo yo (.string sa) (.string ua)).run P w = .ok () w := run_guard (by intro h; cases h) (by intro p q h; cases h)
    simp only [Sem.run_bind, hg, Result.andThen_ok]
    have heq : (sa.toList == ua.toList) = (s == u) := by rw [ByteArray.toList_eq, ByteArray.toList_eq, beq_map, hsa, hua]
    have hlt : Op.bytesLess sa.toList ua.toList = binV.lessL s u := by rw [ByteArray.toList_eq, ByteArray.toList_eq, less_map, hsa, hua]
    split at h
    · split at h
      · rename_i hle
        have hle := Nat.le_of_ble_eq_true hle
        simp only [Option.some.injEq] at h; subst h
        have h1 : s.length = sa.size := by rw [← hsa]; simp
        have h2 : u.length = ua.size := by rw [← hua]; simp
        have h3 : ¬ ((sa.size + ua.size : Nat) : Int) > IntKind.i64.max := by
          have : IntKind.i64.max = 9223372036854775807 := by decide
          omega
        refine ⟨.string (sa ++ ua), by simp [binOp, Op.stringOp]; omega, ⟨_, rfl, ?_⟩⟩
        rw [str_append, hsa, hua]
      · cases h
    · simp only [Option.some.injEq] at h; subst h; exact ⟨.bool (s == u), by simp [binOp, Op.stringOp, heq], rfl⟩
    · simp only [Option.some.injEq] at h; subst h; exact ⟨.bool (!(s == u)), by simp [binOp, Op.stringOp, heq], rfl⟩
    · simp only [Option.some.injEq] at h; subst h; exact ⟨.bool (binV.lessL s u), by simp [binOp, Op.stringOp, hlt], rfl⟩
    · simp only [Option.some.injEq] at h; subst h; exact ⟨.bool (binV.lessL s u || s == u), by simp [binOp, Op.stringOp, heq, hlt], rfl⟩
    · simp only [Option.some.injEq] at h; subst h; exact ⟨.bool (!(binV.lessL s u || s == u)), by simp [binOp, Op.stringOp, heq, hlt], rfl⟩
    · simp only [Option.some.injEq] at h; subst h; exact ⟨.bool (!(binV.lessL s u)), by simp [binOp, Op.stringOp, hlt], rfl⟩
    · cases h
  · rename_i c d n1 n2
    have hns : (op = .eql ∨ op = .neq) → ∃ r, binV.eqV P t (isConstB xo) (isConstB yo) a b = some r := by
      rintro (rfl | rfl)
      · simp only at h
        cases e : binV.eqV P t (isConstB xo) (isConstB yo) a b with
        | none => simp [e] at h
        | some r => exact ⟨r, rfl⟩
      · simp only at h
        cases e : binV.eqV P t (isConstB xo) (isConstB yo) a b with
        | none => simp [e] at h
        | some r => exact ⟨r, rfl⟩
    split at h
    · obtain ⟨r, e⟩ := hns (.inl rfl)
      simp [e] at h
      subst h
      have hg := eqGuard_ok (w := w) (op := .eql) (xo := xo) (yo := yo) e hx hy
      have hq := eqV_ok (w := w) e hx hy
      have hno : (∀ k n, a ≠ .int k n) ∧ (∀ s, a ≠ .str s) := by
        constructor
        · rintro k n rfl
          unfold binV.eqV at e
          split at e <;> first | (cases e; done) | (rename_i hh; cases hh; done) | simp_all
        · rintro s rfl
          unfold binV.eqV at e
          split at e <;> first | (cases e; done) | (rename_i hh; cases hh; done) | simp_all
      obtain ⟨i1, i2, i3, i4⟩ := rel_notint hx hno.1 hno.2
      exact ⟨.bool r, by simp only [Sem.run_bind, hg, Result.andThen_ok]; exact run_binOp_ref i1 i2 i3 i4 rfl hq, rfl⟩
    · obtain ⟨r, e⟩ := hns (.inr rfl)
      simp [e] at h
      subst h
      have hg := eqGuard_ok (w := w) (op := .neq) (xo := xo) (yo := yo) e hx hy
      have hq := eqV_ok (w := w) e hx hy
      have hno : (∀ k n, a ≠ .int k n) ∧ (∀ s, a ≠ .str s) := by
        constructor
        · rintro k n rfl
          unfold binV.eqV at e
          split at e <;> first | (cases e; done) | (rename_i hh; cases hh; done) | simp_all
        · rintro s rfl
          unfold binV.eqV at e
          split at e <;> first | (cases e; done) | (rename_i hh; cases hh; done) | simp_all
      obtain ⟨i1, i2, i3, i4⟩ := rel_notint hx hno.1 hno.2
      exact ⟨.bool (!r), by simp only [Sem.run_bind, hg, Result.andThen_ok]; exact run_binOp_refn i1 i2 i3 i4 rfl hq, rfl⟩
    · cases h

theorem unV_ok {op : UnOp} {a v : V} {x : Value} (h : unV op a = some v) (hx : VRel ρ a x) : ∃ r, (Op.unary op x).run P w = .ok r w ∧ VRel ρ v r := by
  unfold unV at h
  split at h
  · cases hx; simp only [Option.some.injEq] at h; subst h; exact ⟨_, by simp [Op.unary, Op.intArith], rfl⟩
  · cases hx; simp only [Option.some.injEq] at h; subst h; exact ⟨_, by simp [Op.unary], rfl⟩
  · cases h

/-! ### Slices -/
theorem boundV_ok {v : V} {x : Value} {y i : Nat} (h : boundV v y = some i) (hx : VRel ρ v x) (code : BoundsCode) : (Instr.sliceBound x y code).run P w = .ok i w ∧ i ≤ y := by
  unfold boundV at h
  split at h
  · cases hx
    split at h
    · rename_i hc
      simp only [Option.some.injEq] at h
      subst h
      exact ⟨by simp [Instr.sliceBound, asIntOf, hc], by omega⟩
    · cases h
  · cases h
end
end Go.Vex
