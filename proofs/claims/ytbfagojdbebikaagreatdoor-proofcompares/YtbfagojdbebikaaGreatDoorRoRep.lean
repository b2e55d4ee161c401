/- A label-heap of rows that are read alone: how it says of a world. Generic in the program. -/
import Derived.Test.YtbfagojdbebikaaGreatDoorVex27
namespace Go.Vex
open Go Go.RowKit

/-- Rows of whole numbers, each with the place where it lies. -/
def roH (t : TypeId) (n : Nat) : List (Loc × List Int) → T HObj
  | [] => .leaf
  | r :: rs => (roH t (n + 1) rs).put n (some (.cells (r.2.map (V.int .i64)) t .ro))
theorem roH_get {t : TypeId} : ∀ {rs : List (Loc × List Int)} {n l : Nat} {o : HObj}, (roH t n rs).get l = some o → ∃ r, n ≤ l ∧ rs[l - n]? = some r ∧ o = .cells (r.2.map (V.int .i64)) t .ro
  | [], n, l, o, h => by rw [roH, T.get_leaf] at h; cases h
  | r :: rs, n, l, o, h => by
    rw [roH, T.get_put] at h
    split at h
    · rename_i e
      subst e
      exact ⟨r, Nat.le_refl _, by simp, (Option.some.inj h).symm⟩
    · rename_i e
      obtain ⟨r', h1, h2, h3⟩ := roH_get h
      exact ⟨r', by omega, by rw [show l - n = (l - (n + 1)) + 1 by omega, List.getElem?_cons_succ]; exact h2, h3⟩
theorem roH_at {t : TypeId} : ∀ {rs : List (Loc × List Int)} {n i : Nat} {r : Loc × List Int}, rs[i]? = some r → (roH t n rs).get (n + i) = some (.cells (r.2.map (V.int .i64)) t .ro)
  | [], n, i, r, h => by simp at h
  | r' :: rs, n, 0, r, h => by
    simp only [List.getElem?_cons_zero, Option.some.injEq] at h
    rw [roH, T.get_put, if_pos (by omega), h]
  | r' :: rs, n, i + 1, r, h => by
    rw [roH, T.get_put, if_neg (by omega), show n + (i + 1) = n + 1 + i by omega]
    exact roH_at (by simpa using h)

def roRho (G : Nat) (rs : List (Loc × List Int)) : Rho := fun l => if l < G then some ⟨l, 0, 0, 0⟩ else (rs[l - G]?).map (·.1)

theorem ro_rep {P : Program} {G : Nat} {w : World} {t : TypeId} {rs : List (Loc × List Int)} (hG : G ≤ w.heap.size) (hb : ∀ r ∈ rs, r.1.blk < w.heap.size) (hc : ∀ r ∈ rs, ∀ i x, r.2[i]? = some x → w.cell? (r.1.at i) = some (.int .i64 x)) :
    HRep P G w.heap.size (roRho G rs) ⟨roH t G rs, G + rs.length⟩ w := by
  refine ⟨fun l o hl => ?_, fun l l' o o' L L' hl hl' hne ho => ?_, fun l hl => ?_, fun l L hl => ?_, fun g hg => ⟨⟨g, 0, 0, 0⟩, by simp [roRho, hg], rfl, rfl⟩, Nat.le_refl _⟩
  · obtain ⟨r, h1, h2, rfl⟩ := roH_get hl
    refine ⟨r.1, by unfold roRho; rw [if_neg (by omega), h2]; rfl, ?_⟩
    intro i v hv
    rw [List.getElem?_map] at hv
    cases hx : r.2[i]? with
    | none => rw [hx] at hv; cases hv
    | some x =>
      rw [hx] at hv
      obtain rfl := Option.some.inj hv
      exact ⟨_, hc r (List.mem_of_getElem? h2) i x hx, rfl⟩
  · obtain ⟨r, h1, h2, rfl⟩ := roH_get hl
    simp [Own] at ho
  · simp only at hl
    unfold roRho
    rw [if_neg (by omega), List.getElem?_eq_none (by omega)]
    rfl
  · unfold roRho at hl
    split at hl
    · rw [← Option.some.inj hl]; simp only; omega
    · cases hx : rs[l - G]? with
      | none => rw [hx] at hl; cases hl
      | some r =>
        rw [hx] at hl
        obtain rfl := Option.some.inj hl
        exact hb r (List.mem_of_getElem? hx)

/-- A slice of whole numbers that came in. -/
def SliceIn (w : World) (x : Value) (l : List Int) : Prop :=
  (x = .slice none 0 0 ∧ l = []) ∨ ∃ (L : Loc) (c : Nat), x = .slice (some (L.at 0)) l.length c ∧ l.length ≤ c ∧ L.blk < w.heap.size ∧ ∀ i y, l[i]? = some y → w.cell? (L.at i) = some (.int .i64 y)

theorem SliceIn.open {w : World} {x : Value} {l : List Int} (h : SliceIn w x l) (hw : 0 < w.heap.size) : ∃ L : Loc, L.blk < w.heap.size ∧ (∀ i y, l[i]? = some y → w.cell? (L.at i) = some (.int .i64 y)) ∧
    ∃ v : Nat → V, ∀ lb, (∀ (ρ : Rho), ρ lb = some L → VRel ρ (v lb) x) ∧ ∀ (st : St) (t : TypeId), lb < st.n → st.h.get lb = some (.cells (l.map (V.int .i64)) t .ro) → Row .i64 st (v lb) l := by
  rcases h with ⟨rfl, rfl⟩ | ⟨L, c, rfl, h1, h2, h3⟩
  · exact ⟨⟨0, 0, 0, 0⟩, hw, fun i y hy => by simp at hy, fun _ => .nslice, fun lb => ⟨fun ρ _ => rfl, fun st t _ _ => .inl ⟨rfl, rfl⟩⟩⟩
  · refine ⟨L, h2, h3, fun lb => .slice lb 0 l.length (.k c), fun lb => ⟨fun ρ hL => ⟨L, hL, h1, rfl⟩, fun st t hlt hg => .inr ⟨lb, 0, .k c, _, t, .ro, rfl, hlt, hg, fun i y hy => ?_⟩⟩⟩
    rw [Nat.zero_add, List.getElem?_map, hy]; rfl
end Go.Vex
