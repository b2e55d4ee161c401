/- VEX, part 10: append. Generic in the program. -/
import Derived.Test.YtbfagojdbebikaaGreatDoorVex9
import Derived.Laws.Append
namespace Go.Vex
open Go Go.RowKit

section
variable {P : Program} {G B : Nat} {ρ : Rho} {st : St} {w : World}

/-- Own cells of the label-heap, opened. -/
theorem HRep.own (h : HRep P G B ρ st w) {l : Nat} {cs : List V} {t : TypeId} {kd : Kd} {L : Loc} (hl : st.h.get l = some (.cells cs t kd)) (hk : kd ≠ .ro) (hL : ρ l = some L) :
    B ≤ L.blk ∧ ∃ c fz, w.heap[L.blk]? = some (.cells c t fz) ∧ L.off + L.tot = c.size ∧ cs.length ≤ L.tot ∧
        (kd = .exact → L.off = 0 ∧ cs.length = c.size) ∧ (kd = .grown → sizeV P t = some L.es) ∧
        (∀ i, i < c.size → ¬ (fz.1 ≤ i ∧ i < fz.2)) ∧
        ∀ i v, cs[i]? = some v → ∃ x, c[L.off + i]? = some x ∧ VRel ρ v x := by
  obtain ⟨L', hL', r⟩ := h.obj l _ hl
  obtain rfl : L' = L := Option.some.inj (hL'.symm.trans hL)
  unfold ORel at r
  cases kd with
  | ro => exact absurd rfl hk
  | exact => exact r
  | grown => exact r
theorem ORel.mk {o : HObj} {L : Loc} {cs : List V} {t : TypeId} {kd : Kd} (ho : o = .cells cs t kd) (hk : kd ≠ .ro) (h : B ≤ L.blk ∧ ∃ c fz, w.heap[L.blk]? = some (.cells c t fz) ∧ L.off + L.tot = c.size ∧ cs.length ≤ L.tot ∧
        (kd = .exact → L.off = 0 ∧ cs.length = c.size) ∧ (kd = .grown → sizeV P t = some L.es) ∧
        (∀ i, i < c.size → ¬ (fz.1 ≤ i ∧ i < fz.2)) ∧
        ∀ i v, cs[i]? = some v → ∃ x, c[L.off + i]? = some x ∧ VRel ρ v x) : ORel P B ρ o L w := by
  subst ho
  unfold ORel
  cases kd with
  | ro => exact absurd rfl hk
  | exact => exact h
  | grown => exact h

/-- A label is forgotten. -/
theorem Step.forget (h : HRep P G B ρ st w) (l : Nat) : Step P G B ρ st w ρ ⟨st.h.put l none, st.n⟩ w := by
  have hget : ∀ m q, (st.h.put l none).get m = some q → m ≠ l ∧ st.h.get m = some q := fun m q hm => by
    rw [T.get_put] at hm
    split at hm
    · cases hm
    · exact ⟨by assumption, hm⟩
  refine ⟨.refl _, ⟨fun m q hm => h.obj m q (hget m q hm).2, fun m m' q q' M M' hm hm' => h.apart m m' q q' M M' (hget m q hm).2 (hget m' q' hm').2, h.fresh, h.size, h.glob, h.base⟩, Nat.le_refl _,
    ⟨rfl, rfl, rfl, Nat.le_refl _, fun _ _ _ => rfl⟩, fun m q M hm hM => .inr ⟨m, q, M, (hget m q hm).2, hM, rfl, id⟩, fun _ _ _ h => h⟩

/-- An own block turns, and goes on under a new label. -/
theorem Step.regrow (h : HRep P G B ρ st w) {l : Nat} {o o' : HObj} {O : Obj} {L L' : Loc} (hl : st.h.get l = some o) (ho : Own o = true) (hL : ρ l = some L) (hb : L'.blk = L.blk)
    (hO : ORel P B (fun m => if m = st.n then some L' else ρ m) o' L' { w with heap := w.heap.setIfInBounds L.blk O }) :
    Step P G B ρ st w (fun m => if m = st.n then some L' else ρ m) (St.new ⟨st.h.put l none, st.n⟩ o').2 { w with heap := w.heap.setIfInBounds L.blk O } := by
  have le : ρ.le (fun m => if m = st.n then some L' else ρ m) := fun m M hm => by
    have : m ≠ st.n := fun e => by rw [e, h.fresh _ (Nat.le_refl _)] at hm; cases hm
    simp [this, hm]
  have hblk : ∀ k, k ≠ L.blk → ({ w with heap := w.heap.setIfInBounds L.blk O } : World).heap[k]? = w.heap[k]? := fun k hk => by
    show (w.heap.setIfInBounds L.blk O)[k]? = _
    rw [Array.getElem?_setIfInBounds_ne (Ne.symm hk)]
  have hget : ∀ m q, (St.new ⟨st.h.put l none, st.n⟩ o').2.h.get m = some q → (m = st.n ∧ q = o') ∨ (m ≠ st.n ∧ m ≠ l ∧ st.h.get m = some q) := fun m q hm => by
    simp only [St.new, T.get_put] at hm
    split at hm
    · rename_i e; exact .inl ⟨e, (Option.some.inj hm).symm⟩
    · rename_i e
      split at hm
      · cases hm
      · rename_i e2; exact .inr ⟨e, e2, hm⟩
  refine ⟨le, ⟨?_, ?_, ?_, ?_, ?_, ?_⟩, by simp [St.new], ⟨rfl, rfl, rfl, by simp, fun k hk hno => hblk k (hno l o L hl ho hL).symm⟩, ?_, fun m hm M hM => by
    change (if m = st.n then some L' else ρ m) = some M at hM
    rw [if_neg (by omega)] at hM
    exact hM⟩
  · intro m q hm
    rcases hget m q hm with ⟨rfl, rfl⟩ | ⟨hne, hnl, hm'⟩
    · exact ⟨L', by simp, hO⟩
    · obtain ⟨M, hM, r⟩ := h.obj m q hm'
      exact ⟨M, by simp [hne, hM], r.of_block le (hblk _ (fun e => h.apart l m o q L M hl hm' (Ne.symm hnl) ho hL hM e.symm))⟩
  · intro m m' q q' M M' hm hm' hne hq h1 h2
    change (if m = st.n then some L' else ρ m) = some M at h1
    change (if m' = st.n then some L' else ρ m') = some M' at h2
    rcases hget m q hm with ⟨rfl, rfl⟩ | ⟨hn1, hl1, hm1⟩
    · rw [if_pos rfl] at h1
      rw [if_neg (Ne.symm hne)] at h2
      rcases hget m' q' hm' with ⟨rfl, rfl⟩ | ⟨hn2, hl2, hm2⟩
      · exact absurd rfl hne
      · rw [← Option.some.inj h1, hb]
        exact h.apart l m' o q' L M' hl hm2 (Ne.symm hl2) ho hL h2
    · rw [if_neg hn1] at h1
      rcases hget m' q' hm' with ⟨rfl, rfl⟩ | ⟨hn2, hl2, hm2⟩
      · rw [if_pos rfl] at h2
        rw [← Option.some.inj h2, hb]
        exact fun e => h.apart l m o q L M hl hm1 (Ne.symm hl1) ho hL h1 e.symm
      · rw [if_neg hn2] at h2
        exact h.apart m m' q q' M M' hm1 hm2 hne hq h1 h2
  · intro m hm
    simp only [St.new] at hm
    rw [if_neg (by omega)]
    exact h.fresh m (by omega)
  · intro m M hM
    change (if m = st.n then some L' else ρ m) = some M at hM
    show M.blk < (w.heap.setIfInBounds L.blk O).size
    rw [Array.size_setIfInBounds]
    split at hM
    · rw [← Option.some.inj hM, hb]; exact h.size l L hL
    · exact h.size m M hM
  · intro g hg
    obtain ⟨M, a, b⟩ := h.glob g hg
    exact ⟨M, le _ _ a, b⟩
  · show B ≤ (w.heap.setIfInBounds L.blk O).size
    rw [Array.size_setIfInBounds]; exact h.base
  · intro m q M hm hM
    change (if m = st.n then some L' else ρ m) = some M at hM
    rcases hget m q hm with ⟨rfl, rfl⟩ | ⟨hne, hnl, hm'⟩
    · rw [if_pos rfl] at hM
      exact .inr ⟨l, o, L, hl, hL, by rw [← Option.some.inj hM, hb], fun _ => ho⟩
    · rw [if_neg hne] at hM
      exact .inr ⟨m, q, M, hm', hM, rfl, id⟩

/-! ### What is appended -/
theorem take_cut {cs vs : List V} {off n k : Nat} (h : cut cs off n = some vs) (hk : k ≤ n) : (vs.take k).length = k ∧ ∀ i v, (vs.take k)[i]? = some v → cs[off + i]? = some v := by
  obtain ⟨h1, h2⟩ := cut_spec h
  refine ⟨by simp; omega, fun i v hi => ?_⟩
  rw [List.getElem?_take] at hi
  split at hi
  · rw [h2 i (by omega)] at hi; exact hi
  · cases hi

theorem srcV_ok {size : Nat} {x : V} {X : Value} {r : Nat × List V} (hr : srcV size x st = some r) (hx : VRel ρ x X) :
    (Builtin.lenOf X).run P w = .ok r.1 w ∧ r.2.length = r.1 * size := by
  unfold srcV at hr
  split at hr
  · cases hx
    simp only [Option.some.injEq] at hr
    subst hr
    exact ⟨rfl, by simp⟩
  · rename_i l off len cap
    split at hr
    · rename_i cs t kd hl
      obtain ⟨vs, e1, e2⟩ := map2 hr
      subst e2
      cases cap with
      | k c => obtain ⟨L, hL, hle, rfl⟩ := hx; exact ⟨rfl, (cut_spec e1).1⟩
      | u es => obtain ⟨L, q, c, _, _, _, _, rfl⟩ := hx; exact ⟨rfl, (cut_spec e1).1⟩
    · cases hr
  · rename_i s
    obtain ⟨b, rfl, hb⟩ := hx
    split at hr
    · simp only [Option.some.injEq] at hr
      subst hr
      refine ⟨?_, by simp⟩
      have : b.size = s.length := by rw [← hb]; simp
      simp [Builtin.lenOf, this]
    · cases hr
  · cases hr

theorem srcV_first (h : HRep P G B ρ st w) {size : Nat} {x : V} {X : Value} {r : Nat × List V} (hr : srcV size x st = some r) (hx : VRel ρ x X) (k : Nat) (hk : k ≤ r.1) :
    ∃ arr, (∀ w' : World, w'.heap = w.heap → (Builtin.firstCells size k X).run P w' = .ok arr w') ∧ VRels ρ (r.2.take (k * size)) arr.toList ∧ (r.2.take (k * size)).length = k * size := by
  unfold srcV at hr
  split at hr
  · cases hx
    simp only [Option.some.injEq] at hr
    subst hr
    simp only at hk
    obtain rfl : k = 0 := by omega
    exact ⟨#[], fun _ _ => rfl, by simp [VRels], by simp⟩
  · rename_i l off len cap
    split at hr
    · rename_i cs t kd hl
      obtain ⟨vs, e1, e2⟩ := map2 hr
      subst e2
      simp only at hk ⊢
      have hks : k * size ≤ len * size := Nat.mul_le_mul_right _ hk
      obtain ⟨t1, t2⟩ := take_cut e1 hks
      have main : ∀ (L : Loc) (c : Nat), ρ l = some L → ∃ arr, (∀ w' : World, w'.heap = w.heap → (Builtin.firstCells size k (.slice (some (L.at off)) len c)).run P w' = .ok arr w') ∧ VRels ρ (vs.take (k * size)) arr.toList := by
        intro L c hL
        obtain ⟨xs, x1, x2⟩ := run_loadCells (P := P) (w := w) (ρ := ρ) L (k * size) off 0 (vs.take (k * size)) #[] t1 fun j u hj => by
          rw [Nat.add_zero]; exact h.cell hl hL (t2 j u hj)
        exact ⟨xs.toArray, fun w' hw => by simpa [Builtin.firstCells, loadCells] using x1 w' hw, by simpa using x2⟩
      cases cap with
      | k c =>
        obtain ⟨L, hL, hle, rfl⟩ := hx
        obtain ⟨arr, a1, a2⟩ := main L c hL
        exact ⟨arr, a1, a2, t1⟩
      | u es =>
        obtain ⟨L, q, c, ⟨hL, _⟩, hle, _, hq, rfl⟩ := hx
        by_cases hc : 0 < c
        · rw [hq hc]
          obtain ⟨arr, a1, a2⟩ := main L c hL
          exact ⟨arr, a1, a2, t1⟩
        · obtain rfl : k = 0 := by omega
          exact ⟨#[], fun w' _ => by simp [Builtin.firstCells, loadCells, loadCellsFrom], by simp [VRels], by simp⟩
    · cases hr
  · rename_i s
    obtain ⟨b, rfl, hb⟩ := hx
    split at hr
    rotate_left
    · cases hr
    simp only [Option.some.injEq] at hr
    subst hr
    simp only at hk ⊢
    refine ⟨(b.extract 0 k).data.map fun c => .int .u8 c.toNat, fun _ _ => rfl, ?_, by simp; omega⟩
    have : (b.extract 0 k).data.toList = b.data.toList.take k := by rw [Lib.extract_data]; simp
    rw [Array.toList_map, this, Nat.mul_one]
    refine VRels.of_get (by simp [← hb]) fun i v hi => ?_
    rw [List.getElem?_take] at hi
    split at hi
    · rename_i hik
      rw [List.getElem?_map] at hi
      obtain ⟨n, n1, n2⟩ := map2 hi
      subst n2
      rw [← hb, List.getElem?_map] at n1
      obtain ⟨c, c1, c2⟩ := map2 n1
      subst c2
      exact ⟨.int .u8 (c.toNat : Int), by rw [List.getElem?_map, List.getElem?_take, if_pos hik, c1]; rfl, rfl⟩
    · cases hi
  · cases hr
end
end Go.Vex
