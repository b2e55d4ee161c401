/- VEX, part 14: the builtin functions, and those without a body. Generic in the program. -/
import Derived.Test.YtbfagojdbebikaaGreatDoorVex13
import Derived.Lib.UnsafeStr
namespace Go.Vex
open Go Go.RowKit

section
variable {P : Program} {G B : Nat} {ρ : Rho} {st : St} {w : World}

theorem sameLayout_refl (u : TypeId) : ∀ d, sameLayout P (d + 1) u u = true := by
  intro d
  simp [sameLayout]
theorem lies_row {e : TypeId} {cells off n : Nat} (hs : sizeV P e = some 1) (hn : off + n ≤ cells) : liesAt P P.depth e (cells / P.cellsOf e) off e n = true := by
  have hc : P.cellsOf e = 1 := by
    obtain ⟨i, hi, hsz⟩ := sizeV_info hs
    simp [Program.cellsOf, hi, hsz]
  have hd : ∃ d, P.depth = d + 1 := ⟨_, rfl⟩
  obtain ⟨d, hd⟩ := hd
  rw [hd, hc]
  unfold liesAt
  have : rowAt P (fun x => sameLayout P P.depth x e) P.depth e (cells / 1) off n = true := by
    rw [hd]
    unfold rowAt
    simp [hc, sameLayout_refl, hn, Nat.mod_one]
  rw [this]
  rfl

theorem freeze_block {a : Addr} {n : Nat} {c : Array Value} {t : TypeId} {fz : Nat × Nat} (e : w.heap[a.block]? = some (.cells c t fz)) (hn : n ≠ 0) :
    ∃ fz', w.freeze a n = { w with heap := w.heap.setIfInBounds a.block (.cells c t fz') } := by
  refine ⟨if fz.1 == fz.2 then (a.off, a.off + n) else (min fz.1 a.off, max fz.2 (a.off + n)), ?_⟩
  unfold World.freeze
  rw [if_neg hn]
  congr 1
  apply Array.ext_getElem?
  intro i
  rw [Array.getElem?_modify]
  by_cases hi : a.block = i
  · subst hi
    have hb : a.block < w.heap.size := (Array.getElem?_eq_some_iff.1 e).1
    rw [if_pos rfl, Array.getElem?_setIfInBounds_self_of_lt hb, e]
    simp
  · rw [if_neg hi, Array.getElem?_setIfInBounds_ne hi]

theorem string_ok (h : HRep P G B ρ st w) {t u e : TypeId} {ts : List TypeId} {ty : TypeId} {l off : Nat} {n : Int} {k : IntKind} {cs bs : List V} {ns : List Nat} {kd : Kd} {X : Value} (ht : P.underlying t = some (.pointer u)) (hl : st.h.get l = some (.cells cs e kd)) (hk : kd ≠ .ro)
    (hs : sizeV P u = some 1) (he : e = u) (hn : ¬ (n ≤ 0 ∨ 1048576 < n)) (hc : cut cs off n.toNat = some bs) (hb : bytesL bs = some ns) (hX : VRel ρ (.ptr l off) X) :
    VOK P G B ρ st w (Builtin.unsafeString_ (t :: ts).toArray ty #[X, .int k n]) (.str ns) (st.set l (.cells cs e .ro)) := by
  subst he
  obtain ⟨L, hL, rfl⟩ := hX
  obtain ⟨g1, c, fz, g2, g3, g4, _, _, _, g7⟩ := h.own hl hk hL
  obtain ⟨c1, c2⟩ := cut_spec hc
  have hlen := bytesL_length hb
  have hn0 : n.toNat ≠ 0 := by omega
  have hbound : off + n.toNat ≤ cs.length := by
    have h3 := c2 (n.toNat - 1) (by omega)
    have h4 : (bs[n.toNat - 1]?).isSome = true := by rw [List.getElem?_eq_getElem (by omega)]; rfl
    rw [h3] at h4
    by_cases hq : off + (n.toNat - 1) < cs.length
    · omega
    · rw [List.getElem?_eq_none (by omega)] at h4; cases h4
  have hcell : ∀ (j b : Nat), ns[j]? = some b → b < 256 ∧ w.cell? (L.at (off + j)) = some (.int .u8 (b : Int)) := by
    intro j b hj
    have hjn : j < n.toNat := by
      have := (List.getElem?_eq_some_iff.1 hj).1
      omega
    have hbj : bs[j]? = some (bs[j]'(by omega)) := List.getElem?_eq_getElem (by omega)
    obtain ⟨b', b1, b2, b3⟩ := bytesL_ok hb j _ hbj
    obtain rfl : b' = b := Option.some.inj (b1.symm.trans hj)
    rw [b2] at hbj
    rw [c2 j hjn] at hbj
    obtain ⟨x, x1, x2⟩ := h.cell hl hL hbj
    have x2 : x = .int .u8 (b' : Int) := x2
    exact ⟨b3, x2 ▸ x1⟩
  obtain ⟨y, y1, y2⟩ := run_loadBytes (P := P) (w := w) L n.toNat off ns .empty (by omega) hcell
  have hvar : (variablesAt (L.at off) e n.toNat).run P w = .ok true w := by
    have hsh : w.shape? L.blk = some (e, c.size) := by simp [World.shape?, g2]
    have := lies_row (P := P) (cells := c.size) (off := L.off + off) (n := n.toNat) hs (by omega)
    simp [variablesAt, Loc.at, hsh, this]
  obtain ⟨fz', hf⟩ := freeze_block (w := w) (a := L.at off) (n := n.toNat) g2 hn0
  have hown : Own (.cells cs e kd) = true := by cases kd <;> first | rfl | exact absurd rfl hk
  refine ⟨.string y, _, ρ, ?_, ⟨y, rfl, by rw [y2]; simp⟩, Step.write h (O := .cells c e fz') hl hown hL ?_⟩
  · have h1 : ¬ n < 0 := by omega
    have helem : (elemOf t).run P w = .ok e w := by simp [elemOf, run_und ht]
    have h3' : ¬ n = 0 := by omega
    have h2' : ¬ (9223372036854775807 : Int) < n := by omega
    have hdef : Builtin.unsafeString_ (t :: ts).toArray ty #[.pointer (some (L.at off)), .int k n] =
        (do
          let n ← asInt (.int k n)
          let some pt := (t :: ts).toArray[0]? | stuck "unsafe.String: no argument types"
          if n < 0 then runtimePanic (.error "unsafe.String: len out of range")
          if n > IntKind.i64.max then unsupported (.unsafePointer "String: a length above the largest int")
          if n = 0 then pure (.string .empty)
          else if ← variablesAt (L.at off) (← elemOf pt) n.toNat then do
            let s ← loadBytes (L.at off) .empty n.toNat
            freeze (L.at off) n.toNat
            pure (.string s)
          else unsupported (.unsafePointer "String: not so many bytes at ptr")) := rfl
    rw [hdef]
    have hmax : IntKind.i64.max = 9223372036854775807 := rfl
    simp only [asInt, asIntOf, Sem.run_bind, Sem.run_pure, Result.andThen_ok, List.getElem?_toArray, List.getElem?_cons_zero, h1, if_false, hmax, gt_iff_lt, h2', h3', helem, hvar, if_true, y1, run_freeze, hf]
    rfl
  · have hblk : L.blk < w.heap.size := (Array.getElem?_eq_some_iff.1 g2).1
    intro i v hi
    obtain ⟨x, x1, x2⟩ := g7 i v hi
    exact ⟨x, by simp [World.cell?, Loc.at, Array.getElem?_setIfInBounds_self_of_lt hblk, x1], x2⟩

theorem copy_ok (h : HRep P G B ρ st w) {t e : TypeId} {ts : List TypeId} {ty : TypeId} {size : Nat} {d s : V} {D S : Value} {v : V} {st' : St} (ht : P.underlying t = some (.slice e)) (hs : sizeV P e = some size) (hD : VRel ρ d D) (hS : VRel ρ s S)
    (hv : copyV size d s st = some (v, st')) :
    VOK P G B ρ st w (Builtin.copy_ (t :: ts).toArray ty #[D, S]) v st' := by
  cases d <;> simp only [copyV] at hv <;> try (cases hv; done)
  case nslice =>
    obtain ⟨new, e1, e2⟩ := map2 hv
    simp only [Prod.mk.injEq] at e2
    obtain ⟨rfl, rfl⟩ := e2
    cases hD
    have h1 := (srcV_ok (P := P) (w := w) e1 hS).1
    obtain ⟨arr, a1, a2, a3⟩ := srcV_first (P := P) h e1 hS 0 (Nat.zero_le _)
    refine VOK.pure h (r := .int .i64 0) ?_ rfl
    simp [Builtin.copy_, run_und ht, run_size hs, h1, a1 w rfl, goInt]
  case slice l off len cap =>
    obtain ⟨new, e1, e2⟩ := bind2 hv
    obtain ⟨s', e3, e4⟩ := map2 e2
    simp only [Prod.mk.injEq] at e4
    obtain ⟨rfl, rfl⟩ := e4
    have h1 := (srcV_ok (P := P) (w := w) e1 hS).1
    obtain ⟨arr, a1, a2, a3⟩ := srcV_first (P := P) h e1 hS (min new.1 len) (Nat.min_le_left _ _)
    have hmain : ∀ (q : Addr) (c : Nat), (∃ w', (storeCells q arr.toList).run P w = .ok () w' ∧ Step P G B ρ st w ρ s' w') →
        VOK P G B ρ st w (Builtin.copy_ (t :: ts).toArray ty #[.slice (some q) len c, S]) (.int .i64 (min new.1 len : Nat)) s' := by
      rintro q c ⟨w', r1, r2⟩
      refine ⟨.int .i64 (min new.1 len : Nat), w', ρ, ?_, rfl, r2⟩
      have a1 := a1 w rfl
      simp only [Builtin.copy_, List.getElem?_toArray, List.getElem?_cons_zero, List.getElem?_cons_succ, Sem.run_bind, run_und ht, Result.andThen_ok, h1, run_size hs]
      rw [show Nat.min new.1 len = min new.1 len from rfl, a1]
      simp only [Result.andThen_ok, r1, Sem.run_pure, goInt]
    cases cap with
    | k c =>
      obtain ⟨L, hL, hle, rfl⟩ := hD
      exact hmain _ _ (storeCells_ok h e3 hL a2)
    | u es =>
      obtain ⟨L, q, c, ⟨hL, _⟩, hle, _, hq, rfl⟩ := hD
      by_cases hc : 0 < c
      · rw [hq hc]
        exact hmain _ _ (storeCells_ok h e3 hL a2)
      · obtain rfl : len = 0 := by omega
        have h0 : new.2.take (min new.1 0 * size) = [] := by simp
        rw [h0] at e3 a2
        simp only [storeCellsV, Option.some.injEq] at e3
        subst e3
        have : arr.toList = [] := a2
        exact hmain _ _ ⟨w, by rw [this]; rfl, .refl h⟩

theorem builtinV_ok (h : HRep P G B ρ st w) {b : Builtin} {at_ : List TypeId} {ty : TypeId} {cons : Array Bool} {vs : List V} {xs : List Value} {v : V} {st' : St} (hv : builtinV P b at_ vs st = some (v, st')) (hx : VRels ρ vs xs) :
    OpOK P G B ρ st w (builtin b at_.toArray ty cons xs.toArray) v st' := by
  unfold builtinV at hv
  split at hv
  · rename_i s x
    obtain ⟨S, X, rfl, h1, h2⟩ := hx.two
    exact VOK.op (appendV_ok h hv h1 h2)
  · rename_i t ts x
    obtain ⟨X, rfl, h1⟩ := hx.one
    obtain ⟨n, e1, e2⟩ := map2 hv
    cases e2
    exact VOK.op (VOK.pure h (lenV_ok h e1 h1) rfl)
  · rename_i t ts x
    obtain ⟨X, rfl, h1⟩ := hx.one
    obtain ⟨n, e1, e2⟩ := map2 hv
    cases e2
    exact VOK.op (VOK.pure h (capV_ok e1 h1) rfl)
  · rename_i x us
    obtain ⟨X, ys, rfl, h1, h2⟩ := hx
    obtain ⟨n, e1, e2⟩ := map2 hv
    cases e2
    obtain ⟨z, z1, z2⟩ := foldV_ok minV_ok e1 h1 h2
    exact VOK.op (VOK.pure h (r := z) (by simpa [Builtin.min_] using z1) z2)
  · rename_i x us
    obtain ⟨X, ys, rfl, h1, h2⟩ := hx
    obtain ⟨n, e1, e2⟩ := map2 hv
    cases e2
    obtain ⟨z, z1, z2⟩ := foldV_ok maxV_ok e1 h1 h2
    exact VOK.op (VOK.pure h (r := z) (by simpa [Builtin.max_] using z1) z2)
  · rename_i t ts d s
    obtain ⟨D, S, rfl, h1, h2⟩ := hx.two
    split at hv
    · rename_i e ht
      obtain ⟨size, e1, e2⟩ := bind2 hv
      exact VOK.op (copy_ok h ht e1 h1 h2 e2)
    · cases hv
  · rename_i t ts l
    obtain ⟨X, rfl, h1⟩ := hx.one
    obtain ⟨L, hL, rfl⟩ := h1
    split at hv
    · rename_i kt et es clock ht hl
      simp only [Option.some.injEq, Prod.mk.injEq] at hv
      obtain ⟨rfl, rfl⟩ := hv
      obtain ⟨L', hL', r⟩ := h.obj l _ hl
      obtain rfl : L' = L := Option.some.inj (hL'.symm.trans hL)
      obtain ⟨hB, ms, h2, h3⟩ := r
      have hblk : L'.blk < w.heap.size := (Array.getElem?_eq_some_iff.1 h2).1
      refine VOK.op ⟨.tuple #[], _, ρ, ?_, undef_rel, Step.write h (O := .map #[] clock) hl rfl hL ⟨hB, #[], by simp [Array.getElem?_setIfInBounds_self_of_lt hblk], rfl⟩⟩
      simp [Builtin.clear_, run_und ht, run_getObj h2 (by intros; simp), run_setObj h2 (by intros; simp)]
    · cases hv
  · obtain ⟨X, rfl, h1⟩ := hx.one
    cases h1
    simp only [Option.some.injEq, Prod.mk.injEq] at hv
    obtain ⟨rfl, rfl⟩ := hv
    exact VOK.op (VOK.pure h (r := .pointer none) rfl rfl)
  · rename_i l off n c
    obtain ⟨X, rfl, h1⟩ := hx.one
    simp only [Option.some.injEq, Prod.mk.injEq] at hv
    obtain ⟨rfl, rfl⟩ := hv
    cases c with
    | k c =>
      obtain ⟨L, hL, hle, rfl⟩ := h1
      refine VOK.op (VOK.pure h (r := .pointer (some (L.at off))) ?_ ⟨L, hL, rfl⟩)
      exact Lib.run_unsafeSliceData_row _ _ _ _ _ _ (by omega)
    | u es =>
      obtain ⟨L, q, c, ⟨hL, _⟩, hle, _, hq, rfl⟩ := h1
      have hq := hq (by omega)
      subst hq
      refine VOK.op (VOK.pure h (r := .pointer (some (L.at off))) ?_ ⟨L, hL, rfl⟩)
      exact Lib.run_unsafeSliceData_row _ _ _ _ _ _ (by omega)
  · rename_i t ts k
    obtain ⟨X, Y, rfl, h1, h2⟩ := hx.two
    cases h1
    cases h2
    simp only [Option.some.injEq, Prod.mk.injEq] at hv
    obtain ⟨rfl, rfl⟩ := hv
    refine VOK.op (VOK.pure h (r := .string .empty) ?_ ⟨.empty, rfl, rfl⟩)
    rfl
  · rename_i t ts l off k n
    obtain ⟨X, Y, rfl, h1, h2⟩ := hx.two
    cases h2
    split at hv
    · rename_i u ht
      split at hv
      · cases hv
      · rename_i hn
        split at hv
        · rename_i cs e kd hl hs
          split at hv
          · rename_i hc
            rw [Bool.and_eq_true] at hc
            have he := Nat.eq_of_beq_eq_true hc.1
            have hk : kd ≠ .ro := by simpa using hc.2
            obtain ⟨bs, e1, e2⟩ := bind2 hv
            obtain ⟨ns, e3, e4⟩ := map2 e2
            cases e4
            exact VOK.op (string_ok h ht hl hk hs he hn e1 e3 h1)
          · cases hv
        · cases hv
    · cases hv
  · cases hv
end
end Go.Vex
