/- VEX, part 12: append: the evaluator's is the model's. Generic in the program. -/
import Derived.Test.YtbfagojdbebikaaGreatDoorVex11
namespace Go.Vex
open Go Go.RowKit

section
variable {P : Program} {G B : Nat} {ρ : Rho} {st : St} {w : World}

theorem newV_src (h : HRep P G B ρ st w) {tx : List TypeId} {e : TypeId} {size : Nat} {x : V} {X : Value} {new : Nat × List V} (hr : newV P tx e size x st = some new) (hs : sizeV P e = some size) (hx : VRel ρ x X) (hle : new.1 ≤ 1048576) :
    ∃ b arr, zerosB P tx = some b ∧ VRels ρ new.2 arr.toList ∧ new.2.length = new.1 * size ∧ ∀ w' : World, w'.heap = w.heap → Src P e size new.1 X b arr w' := by
  unfold newV at hr
  split at hr
  · rename_i k n hz
    cases hx
    split at hr
    · rename_i hn
      obtain ⟨zs, e1, e2⟩ := map2 hr
      subst e2
      simp only at hle ⊢
      have hnn : ((n.toNat : Nat) : Int) = n := by omega
      rcases zeros_rel e1 with ⟨h0, rfl⟩ | ⟨z, s, hs', hz1, hz2, hz3, hz4⟩
      · refine ⟨true, #[], hz, rfl, by simp [h0], fun w' _ => ⟨by simp, by simp, fun _ => ⟨k, by rw [hnn]⟩, hle, fun _ => .inl ⟨by simp [h0], rfl⟩⟩⟩
      · obtain rfl : s = size := Option.some.inj (hz3.symm.trans hs)
        have hlen := (hz4 ρ).length
        rw [Array.length_toList] at hlen
        by_cases hl : n.toNat * s = 0
        · have hl0 : n.toNat = 0 := by
            rcases Nat.mul_eq_zero.1 hl with h0 | h0
            · exact h0
            · omega
          have : zs = [] := by
            apply List.length_eq_zero_iff.1
            rw [← hlen]; simp [hl]
          subst this
          exact ⟨true, #[], hz, rfl, by simp [hl0], fun w' _ => ⟨by simp, by simp, fun _ => ⟨k, by rw [hnn]⟩, hle, fun _ => .inl ⟨by simp [hl0], rfl⟩⟩⟩
        · refine ⟨true, Builtin.zeroCells z.cells n.toNat, hz, ?_, by rw [← hlen]; simp, fun w' _ => ⟨by simp, by simp, fun _ => ⟨k, by rw [hnn]⟩, hle, fun _ => .inr ⟨hl, z, hz1, rfl⟩⟩⟩
          have := hz4 ρ
          unfold Builtin.zeroCells
          rw [hz2]
          rw [hz2] at this
          exact this
    · cases hr
  · rename_i hz
    have h1 := srcV_ok (P := P) (w := w) hr hx
    obtain ⟨arr, a1, a2, a3⟩ := srcV_first (P := P) h hr hx new.1 (Nat.le_refl _)
    rw [List.take_of_length_le (by omega)] at a2 a3
    refine ⟨false, arr, hz, a2, a3, fun w' hw => ⟨fun _ => (srcV_ok (P := P) (w := w') hr hx).1, fun _ => a1 w' hw, by simp, hle, by simp⟩⟩
  · cases hr

theorem slice_first (h : HRep P G B ρ st w) {l off len size : Nat} {cs vs : List V} {t : TypeId} {kd : Kd} {L : Loc} (hl : st.h.get l = some (.cells cs t kd)) (hL : ρ l = some L) (hc : cut cs off (len * size) = some vs) (c : Nat) :
    ∃ arr, (∀ w' : World, w'.heap = w.heap → (Builtin.firstCells size len (.slice (some (L.at off)) len c)).run P w' = .ok arr w') ∧ VRels ρ vs arr.toList := by
  obtain ⟨c1, c2⟩ := cut_spec hc
  obtain ⟨xs, x1, x2⟩ := run_loadCells (P := P) (w := w) (ρ := ρ) L (len * size) off 0 vs #[] c1 fun j u hj => by
    rw [Nat.add_zero]
    have hjn : j < len * size := by
      by_cases hq : j < len * size
      · exact hq
      · rw [List.getElem?_eq_none (by omega)] at hj; cases hj
    rw [c2 j hjn] at hj
    exact h.cell hl hL hj
  exact ⟨xs.toArray, fun w' hw => by simpa [Builtin.firstCells, loadCells] using x1 w' hw, by simpa using x2⟩

/-- A grown row: what was, what is appended, and some zeros. -/
theorem grown_ok (h : HRep P G B ρ st w) {e : TypeId} {size n len cap : Nat} {vs ws : List V} {old arr rest : Array Value} (hs : sizeV P e = some size) (hv : VRels ρ vs old.toList) (hw : VRels ρ ws arr.toList)
    (hvl : vs.length = len * size) (hwl : ws.length = n * size) (hcap : len + n ≤ cap) (hrest : rest.size = (cap - (len + n)) * size) :
    ∃ ρ', Step P G B ρ st w ρ' (st.new (.cells (vs ++ ws) e .grown)).2 (w.drew.alloc (.cells (old ++ (arr ++ rest)) e)) ∧
      VRel ρ' (.slice (st.new (.cells (vs ++ ws) e .grown)).1 0 (len + n) (.u size)) (.slice (some ⟨w.heap.size, 0, none⟩) (len + n) cap) := by
  have h1 := hv.length
  have h2 := hw.length
  rw [Array.length_toList] at h1 h2
  have hsz : (old ++ (arr ++ rest)).size = cap * size := by
    simp only [Array.size_append, h1, h2, hvl, hwl, hrest, ← Nat.add_mul]
    congr 1
    omega
  have step := new_cells (h.drew (w.drawn + 1)) (cs := vs ++ ws) (t := e) (kd := .grown) (c := old ++ (arr ++ rest)) (es := size) (by simp) (by simp) (fun _ => ⟨hs, by
    rw [hsz, List.length_append, hvl, hwl, ← Nat.add_mul]; exact Nat.mul_le_mul_right _ hcap⟩) (fun i v hi => by
      obtain ⟨x, x1, x2⟩ := (hv.append hw).get i v hi
      refine ⟨x, ?_, x2⟩
      have hlt : i < (old.toList ++ arr.toList).length := (List.getElem?_eq_some_iff.1 x1).1
      rw [← Array.getElem?_toList, Array.toList_append, Array.toList_append, ← List.append_assoc, List.getElem?_append_left hlt]
      exact x1)
  refine ⟨_, (Step.drew h (w.drawn + 1)).trans step, ⟨w.heap.size, 0, cap * size, size⟩, ⟨w.heap.size, 0, none⟩, cap, ⟨?_, rfl⟩, hcap, by simp, fun _ => rfl, rfl⟩
  simp [St.new, hsz]

theorem zeroCells_size (z : Array Value) (n : Nat) : (Builtin.zeroCells z n).size = n * z.size := by simp [Builtin.zeroCells]

theorem appendTo_ok (h : HRep P G B ρ st w) {t : TypeId} {tx : List TypeId} {ty e : TypeId} {sz : Nat} {s v : V} {S X : Value} {new : Nat × List V} {st' : St} {i : TypeInfo} {z : V} (hv : appendV.appendTo e (sz + 1) s new st = some (v, st'))
    (ht : P.underlying t = some (.slice e)) (hs : sizeV P e = some (sz + 1)) (hi : P.info? e = some i) (hib : i.bytes ≤ 1048576) (hz : zeroV P e = some z) (hzl : z.cells.length = sz + 1) (hS : VRel ρ s S) (hle : new.1 ≤ 1048576)
    {b : Bool} {arr : Array Value} (hzb : zerosB P tx = some b) (ha : VRels ρ new.2 arr.toList) (hal : new.2.length = new.1 * (sz + 1)) (src : ∀ w' : World, w'.heap = w.heap → Src P e (sz + 1) new.1 X b arr w') :
    VOK P G B ρ st w (Builtin.append_ (t :: tx).toArray ty #[S, X]) v st' := by
  have hzero : ∃ zx, (∀ w, (zeroValue e).run P w = .ok zx w) ∧ zx.cells.size = sz + 1 := by
    unfold zeroV at hz
    cases e3 : P.info? e with
    | none => simp [e3] at hz
    | some i' =>
      cases e4 : i'.zero with
      | none => simp [e3, e4] at hz
      | some x =>
        simp [e3, e4] at hz
        exact ⟨x, fun w => by simp [zeroValue, run_info e3, e4], by rw [cells_size (ofConst_rel (ρ := ρ) _ _ _ hz)]; exact hzl⟩
  obtain ⟨zx, hz1, hz2⟩ := hzero
  have halen : arr.size = new.1 * (sz + 1) := by rw [← hal, ← ha.length, Array.length_toList]
  unfold appendV.appendTo at hv
  split at hv
  · cases hS
    split at hv
    · rename_i h0
      have h0 := Nat.eq_of_beq_eq_true h0
      simp only [Option.some.injEq, Prod.mk.injEq] at hv
      obtain ⟨rfl, rfl⟩ := hv
      have src' := src w rfl
      rw [h0] at src'
      exact VOK.pure h (run_append_nothing ht hs hi hzb src') rfl
    · rename_i h0
      have h0 := Nat.ne_of_beq_eq_false h0
      simp only [Option.some.injEq, Prod.mk.injEq] at hv
      obtain ⟨rfl, rfl⟩ := hv
      obtain ⟨cap, c1, c2⟩ := run_append_grows (ty := ty) (base := none) (sLen := 0) (sCap := 0) (old := #[]) ht hs hi hib hz1 hzb (src w rfl) (src w.drew rfl) (by omega) (by omega) (by simp [Builtin.firstCells])
      obtain ⟨ρ', s1, s2⟩ := grown_ok h (vs := []) (ws := new.2) (old := #[]) (arr := arr) (rest := Builtin.zeroCells zx.cells (cap - (0 + new.1))) (len := 0) (n := new.1) (cap := cap) hs rfl ha (by simp) hal c1 (by rw [zeroCells_size, hz2])
      refine ⟨_, _, ρ', c2, ?_, s1⟩
      simpa using s2
  · rename_i l off len cap
    obtain ⟨L, hL, hlc, rfl⟩ := hS
    split at hv
    · rename_i hfit
      have hfit := Nat.le_of_ble_eq_true hfit
      obtain ⟨s', e1, e2⟩ := map2 hv
      simp only [Prod.mk.injEq] at e2
      obtain ⟨rfl, rfl⟩ := e2
      obtain ⟨w', r1, r2⟩ := storeCells_ok h e1 hL ha
      exact ⟨_, w', ρ, run_append_fits ht hs hi hib hzb (src w rfl) hfit (by rw [at_add]; exact r1), ⟨L, hL, hfit, rfl⟩, r2⟩
    · rename_i hfit
      have hfit : ¬ len + new.1 ≤ cap := fun hh => by rw [Nat.ble_eq_true_of_le hh] at hfit; cases hfit
      split at hv
      · rename_i cs t' kd hcap hl
        have hcap := Nat.le_of_ble_eq_true hcap
        obtain ⟨old, e1, e2⟩ := map2 hv
        simp only [Prod.mk.injEq] at e2
        obtain ⟨rfl, rfl⟩ := e2
        obtain ⟨oa, o1, o2⟩ := slice_first h hl hL e1 cap
        obtain ⟨cp, c1, c2⟩ := run_append_grows (ty := ty) ht hs hi hib hz1 hzb (src w rfl) (src w.drew rfl) hfit (by omega) (o1 w.drew rfl)
        obtain ⟨ρ', s1, s2⟩ := grown_ok h (rest := Builtin.zeroCells zx.cells (cp - (len + new.1))) hs o2 ha (cut_spec e1).1 hal c1 (by rw [zeroCells_size, hz2])
        exact ⟨_, _, ρ', c2, s2, s1⟩
      · cases hv
  · rename_i l off len es
    obtain ⟨L, q, c, ⟨hL, hLe⟩, hlc, htot, hq, rfl⟩ := hS
    split at hv
    · rename_i h0
      have h0 := Nat.eq_of_beq_eq_true h0
      simp only [Option.some.injEq, Prod.mk.injEq] at hv
      obtain ⟨rfl, rfl⟩ := hv
      have ha0 : arr.toList = [] := by
        apply List.length_eq_zero_iff.1
        rw [Array.length_toList, halen, h0]; simp
      refine VOK.pure h (r := .slice (some q) len c) ?_ ⟨L, q, c, ⟨hL, hLe⟩, hlc, htot, hq, rfl⟩
      have := run_append_fits (ty := ty) (a := q) (sLen := len) (sCap := c) (w' := w) ht hs hi hib hzb (src w rfl) (by omega) (by rw [ha0]; rfl)
      simpa [h0] using this
    · rename_i h0
      have h0 := Nat.ne_of_beq_eq_false h0
      split at hv
      · rename_i cs t' hcnd hl
        rw [Bool.and_eq_true] at hcnd
        have hlen := Nat.le_of_ble_eq_true hcnd.1
        have hes := Nat.eq_of_beq_eq_true hcnd.2
        subst hes
        split at hv
        · cases hv
        · rename_i hte
          have hte := Nat.eq_of_beq_eq_true hte
          subst hte
          obtain ⟨g1, arrc, fz, g2, g3, g4, _, g5, g6, g7⟩ := h.own hl (by simp) hL
          split at hv
          · rename_i hknown
            have hknown := Nat.le_of_ble_eq_true hknown
            obtain ⟨s', e1, e2⟩ := map2 hv
            simp only [Prod.mk.injEq] at e2
            obtain ⟨rfl, rfl⟩ := e2
            have hfit : len + new.1 ≤ c := by
              have : (len + new.1) * (sz + 1) ≤ c * (sz + 1) := by omega
              exact Nat.le_of_mul_le_mul_right this (by omega)
            have hq := hq (by omega)
            subst hq
            obtain ⟨w', r1, r2⟩ := storeCells_ok h e1 hL ha
            exact ⟨_, w', ρ, run_append_fits ht hs hi hib hzb (src w rfl) hfit (by rw [at_add]; exact r1), ⟨L, _, c, ⟨hL, hLe⟩, hfit, htot, fun _ => rfl, rfl⟩, r2⟩
          · split at hv
            · rename_i hcells
              obtain ⟨old, e1, e2⟩ := map2 hv
              simp only [Prod.mk.injEq] at e2
              obtain ⟨rfl, rfl⟩ := e2
              obtain ⟨k1, k2⟩ := cut_spec e1
              by_cases hfit : len + new.1 ≤ c
              · have hq := hq (by omega)
                subst hq
                have hmul : (len + new.1) * (sz + 1) ≤ c * (sz + 1) := Nat.mul_le_mul_right _ hfit
                rw [Nat.add_mul] at hmul
                have hxl : arr.toList.length = new.1 * (sz + 1) := by rw [Array.length_toList, halen]
                have hrun := run_storeCells (P := P) L arr.toList w arrc (off + len * (sz + 1)) 0 g2 (by omega) g6 (all_isCell ha hcells)
                refine ⟨_, _, _, run_append_fits ht hs hi hib hzb (src w rfl) hfit (by rw [at_add]; exact hrun), ?_,
                  Step.regrow h (L' := ⟨L.blk, L.off + off, L.tot - off, sz + 1⟩) hl rfl hL rfl (ORel.mk rfl (by simp) ⟨g1, layA arrc (L.off + (off + len * (sz + 1)) + 0) arr.toList, fz, ?_, ?_, ?_, by simp, fun _ => hs, ?_, ?_⟩)⟩
                · refine ⟨⟨L.blk, L.off + off, L.tot - off, sz + 1⟩, L.at off, c, ⟨by simp [St.new], rfl⟩, hfit, by simp; omega, fun _ => by simp [Loc.at], rfl⟩
                · have hblk : L.blk < w.heap.size := (Array.getElem?_eq_some_iff.1 g2).1
                  simp [Array.getElem?_setIfInBounds_self_of_lt hblk]
                · rw [layA_size]; simp only; omega
                · simp only [List.length_append]; omega
                · rw [layA_size]; exact g6
                · intro j u hj
                  have le : ρ.le (fun m => if m = st.n then some (⟨L.blk, L.off + off, L.tot - off, sz + 1⟩ : Loc) else ρ m) := fun m M hm => by
                    have : m ≠ st.n := fun e => by rw [e, h.fresh _ (Nat.le_refl _)] at hm; cases hm
                    simp [this, hm]
                  show ∃ x, (layA arrc (L.off + (off + len * (sz + 1)) + 0) arr.toList)[L.off + off + j]? = some x ∧ _
                  rw [layA_get _ _ _ _ (by omega)]
                  by_cases hjl : j < old.length
                  · rw [List.getElem?_append_left hjl, k2 j (by omega)] at hj
                    obtain ⟨x, x1, x2⟩ := g7 _ _ hj
                    refine ⟨x, ?_, VRel.mono le _ _ x2⟩
                    rw [if_neg (by omega), Nat.add_assoc]
                    exact x1
                  · rw [List.getElem?_append_right (by omega)] at hj
                    obtain ⟨x, x1, x2⟩ := ha.get _ _ hj
                    have hlt := (List.getElem?_eq_some_iff.1 hj).1
                    refine ⟨x, ?_, VRel.mono le _ _ x2⟩
                    rw [if_pos (by omega), show L.off + off + j - (L.off + (off + len * (sz + 1)) + 0) = j - old.length by omega]
                    exact x1
              · have hold : ∃ oa, (∀ w' : World, w'.heap = w.heap → (Builtin.firstCells (sz + 1) len (.slice (some q) len c)).run P w' = .ok oa w') ∧ VRels ρ old oa.toList := by
                  by_cases hc0 : 0 < c
                  · rw [hq hc0]; exact slice_first h hl hL e1 c
                  · obtain rfl : len = 0 := by omega
                    have : old = [] := List.length_eq_zero_iff.1 (by rw [k1]; simp)
                    subst this
                    exact ⟨#[], fun w' _ => by simp [Builtin.firstCells, loadCells, loadCellsFrom], rfl⟩
                obtain ⟨oa, o1, o2⟩ := hold
                obtain ⟨cp, c1, c2⟩ := run_append_grows (ty := ty) ht hs hi hib hz1 hzb (src w rfl) (src w.drew rfl) hfit hlen (o1 w.drew rfl)
                have hf := Step.forget h l
                obtain ⟨ρ', s1, s2⟩ := grown_ok hf.rep (rest := Builtin.zeroCells zx.cells (cp - (len + new.1))) hs o2 ha k1 hal c1 (by rw [zeroCells_size, hz2])
                exact ⟨_, _, ρ', c2, s2, hf.trans s1⟩
            · cases hv
      · cases hv
  · cases hv
end
end Go.Vex
