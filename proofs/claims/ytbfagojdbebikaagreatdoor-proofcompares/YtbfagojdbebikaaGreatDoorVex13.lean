/- VEX, part 13: the builtin functions, and those without a body. Generic in the program. -/
import Derived.Test.YtbfagojdbebikaaGreatDoorVex12
namespace Go.Vex
open Go Go.RowKit

section
variable {P : Program} {G B : Nat} {ρ : Rho} {st : St} {w : World}

theorem appendV_ok (h : HRep P G B ρ st w) {at_ : List TypeId} {ty : TypeId} {s x v : V} {S X : Value} {st' : St} (hv : appendV P at_ s x st = some (v, st')) (hS : VRel ρ s S) (hX : VRel ρ x X) :
    VOK P G B ρ st w (Builtin.append_ at_.toArray ty #[S, X]) v st' := by
  unfold appendV at hv
  split at hv
  · rename_i t tx
    split at hv
    · rename_i e ht
      obtain ⟨size, e1, e2⟩ := bind2 hv
      split at e2
      · rename_i sz bytes hb
        obtain ⟨i, hi, hb⟩ := map2 hb
        subst hb
        split at e2
        · rename_i hbb
          have hbb := Nat.le_of_ble_eq_true hbb
          obtain ⟨new, e3, e4⟩ := bind2 e2
          split at e4
          · rename_i hle
            have hle := Nat.le_of_ble_eq_true hle
            obtain ⟨z, e5, e6⟩ := bind2 e4
            split at e6
            · rename_i hzl
              have hzl := Nat.eq_of_beq_eq_true hzl
              obtain ⟨b, arr, b1, b2, b3, b4⟩ := newV_src h e3 e1 hX hle
              exact appendTo_ok h e6 ht e1 hi hbb e5 hzl hS hle b1 b2 b3 b4
            · cases e6
          · cases e4
        · cases e2
      · cases e2
    · cases hv
  · cases hv

theorem VRels.one {v : V} {xs : List Value} (h : VRels ρ [v] xs) : ∃ x, xs = [x] ∧ VRel ρ v x := by
  obtain ⟨x, ys, rfl, h1, h2⟩ := h
  obtain rfl : ys = [] := h2
  exact ⟨x, rfl, h1⟩
theorem VRels.two {v u : V} {xs : List Value} (h : VRels ρ [v, u] xs) : ∃ x y, xs = [x, y] ∧ VRel ρ v x ∧ VRel ρ u y := by
  obtain ⟨x, ys, rfl, h1, h2⟩ := h
  obtain ⟨y, rfl, h3⟩ := VRels.one h2
  exact ⟨x, y, rfl, h1, h3⟩

theorem lenV_ok (h : HRep P G B ρ st w) {t : TypeId} {ts : List TypeId} {ty : TypeId} {x : V} {X : Value} {n : Nat} (hv : lenV P t x st = some n) (hX : VRel ρ x X) : (Builtin.len_ (t :: ts).toArray ty #[X]).run P w = .ok (.int .i64 (n : Int)) w := by
  unfold lenV at hv
  split at hv
  · rename_i s ht
    obtain ⟨b, rfl, hb⟩ := hX
    simp only [Option.some.injEq] at hv
    have : b.size = s.length := by rw [← hb]; simp
    simp [Builtin.len_, run_und ht, goInt, this, hv]
  · rename_i k e ht
    simp only [Option.some.injEq] at hv
    subst hv
    simp [Builtin.len_, run_und ht, goInt]
  · rename_i e ht
    split at hv
    · rename_i k u hu
      simp only [Option.some.injEq] at hv
      subst hv
      simp [Builtin.len_, run_und ht, run_und hu, goInt]
    · cases hv
  · rename_i e l o k c ht
    simp only [Option.some.injEq] at hv
    subst hv
    cases c with
    | k c => obtain ⟨L, hL, hle, rfl⟩ := hX; simp [Builtin.len_, run_und ht, goInt]
    | u es => obtain ⟨L, q, c, _, _, _, _, rfl⟩ := hX; simp [Builtin.len_, run_und ht, goInt]
  · rename_i e ht
    cases hX
    simp only [Option.some.injEq] at hv
    subst hv
    simp [Builtin.len_, run_und ht, goInt]
  · rename_i k e ht
    cases hX
    simp only [Option.some.injEq] at hv
    subst hv
    simp [Builtin.len_, run_und ht, goInt]
  · rename_i k e l ht
    obtain ⟨L, hL, rfl⟩ := hX
    split at hv
    · rename_i es clock hl
      simp only [Option.some.injEq] at hv
      subst hv
      obtain ⟨L', hL', r⟩ := h.obj l _ hl
      obtain rfl : L' = L := Option.some.inj (hL'.symm.trans hL)
      obtain ⟨_, ms, h2, h3⟩ := r
      have := h3.length
      rw [Array.length_toList] at this
      simp [Builtin.len_, run_und ht, goInt, run_getObj h2 (by intros; simp), this]
    · cases hv
  · cases hv

theorem capV_ok {t : TypeId} {ts : List TypeId} {ty : TypeId} {x : V} {X : Value} {n : Nat} (hv : capV P t x = some n) (hX : VRel ρ x X) : (Builtin.cap_ (t :: ts).toArray ty #[X]).run P w = .ok (.int .i64 (n : Int)) w := by
  unfold capV at hv
  split at hv
  · rename_i k e ht
    simp only [Option.some.injEq] at hv
    subst hv
    simp [Builtin.cap_, run_und ht, goInt]
  · rename_i e l o k c ht
    simp only [Option.some.injEq] at hv
    subst hv
    obtain ⟨L, hL, hle, rfl⟩ := hX
    simp [Builtin.cap_, run_und ht, goInt]
  · rename_i e ht
    cases hX
    simp only [Option.some.injEq] at hv
    subst hv
    simp [Builtin.cap_, run_und ht, goInt]
  · cases hv

theorem foldV_ok {f : V → V → Option V} {F : Value → Value → Sem Value} (hf : ∀ a b c x y, f a b = some c → VRel ρ a x → VRel ρ b y → ∃ z, (F x y).run P w = .ok z w ∧ VRel ρ c z) :
    ∀ {vs : List V} {xs : List Value} {a c : V} {x : Value}, foldV f a vs = some c → VRel ρ a x → VRels ρ vs xs → ∃ z, (xs.foldlM F x).run P w = .ok z w ∧ VRel ρ c z
  | [], xs, a, c, x, h, hx, hs => by
    obtain rfl : xs = [] := hs
    simp only [foldV, Option.some.injEq] at h
    subst h
    exact ⟨x, rfl, hx⟩
  | v :: vs, xs, a, c, x, h, hx, hs => by
    obtain ⟨y, ys, rfl, h1, h2⟩ := hs
    simp only [foldV] at h
    obtain ⟨u, e1, e2⟩ := bind2 h
    obtain ⟨z, z1, z2⟩ := hf _ _ _ _ _ e1 hx h1
    obtain ⟨q, q1, q2⟩ := foldV_ok hf e2 z2 h2
    exact ⟨q, by simp only [List.foldlM_cons, Sem.run_bind, z1, Result.andThen_ok, q1], q2⟩

theorem minV_ok : ∀ a b c x y, minV a b = some c → VRel ρ a x → VRel ρ b y → ∃ z, (Builtin.min2 x y).run P w = .ok z w ∧ VRel ρ c z := by
  intro a b c x y h hx hy
  unfold minV at h
  split at h
  · cases hx; cases hy
    simp only [Option.some.injEq] at h
    subst h
    exact ⟨_, rfl, rfl⟩
  · cases h
theorem maxV_ok : ∀ a b c x y, maxV a b = some c → VRel ρ a x → VRel ρ b y → ∃ z, (Builtin.max2 x y).run P w = .ok z w ∧ VRel ρ c z := by
  intro a b c x y h hx hy
  unfold maxV at h
  split at h
  · cases hx; cases hy
    simp only [Option.some.injEq] at h
    subst h
    exact ⟨_, rfl, rfl⟩
  · cases h

/-! ### unsafe.String -/
theorem bytesL_ok : ∀ {vs : List V} {bs : List Nat}, bytesL vs = some bs → ∀ (i : Nat) (v : V), vs[i]? = some v → ∃ b : Nat, bs[i]? = some b ∧ v = V.int .u8 (b : Int) ∧ b < 256
  | [], bs, h, i, v, hi => by simp at hi
  | .int .u8 b :: r, bs, h, i, v, hi => by
    simp only [bytesL] at h
    split at h
    · rename_i hb
      obtain ⟨c, c1, c2⟩ := map2 h
      subst c2
      cases i with
      | zero =>
        simp only [List.getElem?_cons_zero, Option.some.injEq] at hi
        subst hi
        exact ⟨b.toNat, rfl, by congr 1; omega, by omega⟩
      | succ i => simpa using bytesL_ok c1 i v (by simpa using hi)
    · cases h
  | .int .i8 _ :: _, bs, h, _, _, _ => by cases h
  | .int .i16 _ :: _, bs, h, _, _, _ => by cases h
  | .int .i32 _ :: _, bs, h, _, _, _ => by cases h
  | .int .i64 _ :: _, bs, h, _, _, _ => by cases h
  | .int .u16 _ :: _, bs, h, _, _, _ => by cases h
  | .int .u32 _ :: _, bs, h, _, _, _ => by cases h
  | .int .u64 _ :: _, bs, h, _, _, _ => by cases h
  | .bool _ :: _, bs, h, _, _, _ => by cases h
  | .str _ :: _, bs, h, _, _, _ => by cases h
  | .ptr _ _ :: _, bs, h, _, _, _ => by cases h
  | .nptr :: _, bs, h, _, _, _ => by cases h
  | .slice _ _ _ _ :: _, bs, h, _, _, _ => by cases h
  | .nslice :: _, bs, h, _, _, _ => by cases h
  | .map _ :: _, bs, h, _, _, _ => by cases h
  | .nmap :: _, bs, h, _, _, _ => by cases h
  | .func _ _ _ :: _, bs, h, _, _, _ => by cases h
  | .yield _ :: _, bs, h, _, _, _ => by cases h
  | .nfunc :: _, bs, h, _, _, _ => by cases h
  | .iface _ _ :: _, bs, h, _, _, _ => by cases h
  | .niface :: _, bs, h, _, _, _ => by cases h
  | .agg _ :: _, bs, h, _, _, _ => by cases h
  | .tup _ :: _, bs, h, _, _, _ => by cases h
theorem bytesL_length : ∀ {vs : List V} {bs : List Nat}, bytesL vs = some bs → bs.length = vs.length
  | [], bs, h => by simp only [bytesL, Option.some.injEq] at h; subst h; rfl
  | v :: r, bs, h => by
    unfold bytesL at h
    split at h
    · rename_i e; cases e
    · rename_i b r' e
      cases e
      split at h
      · obtain ⟨c, c1, c2⟩ := map2 h
        subst c2
        simp [bytesL_length c1]
      · cases h
    · cases h

theorem run_loadBytes (L : Loc) : ∀ (n o : Nat) (bs : List Nat) (acc : ByteArray), bs.length = n → (∀ (j b : Nat), bs[j]? = some b → b < 256 ∧ w.cell? (L.at (o + j)) = some (.int .u8 (b : Int))) →
    ∃ y : ByteArray, (loadBytes (L.at o) acc n).run P w = .ok y w ∧ y.data.toList.map UInt8.toNat = acc.data.toList.map UInt8.toNat ++ bs
  | 0, o, bs, acc, hn, _ => by
    obtain rfl := List.length_eq_zero_iff.1 hn
    exact ⟨acc, rfl, by simp⟩
  | n + 1, o, [], acc, hn, _ => by simp at hn
  | n + 1, o, b :: bs, acc, hn, h => by
    obtain ⟨hb, hc⟩ := h 0 b rfl
    obtain ⟨y, y1, y2⟩ := run_loadBytes L n (o + 1) bs (acc.push ((b : Int).toNat.toUInt8)) (by simpa using hn) fun j c hj => by
      have := h (j + 1) c (by simpa using hj)
      rwa [show o + (j + 1) = o + 1 + j by omega] at this
    rw [Nat.add_zero] at hc
    refine ⟨y, by simp [loadBytes, hc, at_add]; simpa using y1, ?_⟩
    rw [y2]
    have : (b.toUInt8).toNat = b := by simp; omega
    simp [ByteArray.data_push, this]
end
end Go.Vex
