/- VEX, part 4: the evaluator's plain operations are the model's: what calls nothing. Generic in the program. -/
import Derived.Test.YtbfagojdbebikaaGreatDoorVex3
namespace Go.Vex
open Go Go.RowKit

section
variable {P : Program} {G B : Nat} {ρ : Rho} {st : St} {w : World}

/-- A term of the model's yields a value that fits v, and leads to a world that fits st'. -/
def VOK (P : Program) (G B : Nat) (ρ : Rho) (st : St) (w : World) (s : Sem Value) (v : V) (st' : St) : Prop :=
  ∃ r w' ρ', s.run P w = .ok r w' ∧ VRel ρ' v r ∧ Step P G B ρ st w ρ' st' w'
def OpOK (P : Program) (G B : Nat) (ρ : Rho) (st : St) (w : World) (s : Sem Next) (v : V) (st' : St) : Prop :=
  ∃ r w' ρ', (s.run P w = .ok (.value r) w' ∨ (s.run P w = .ok .skip w' ∧ r = undef)) ∧ VRel ρ' v r ∧ Step P G B ρ st w ρ' st' w'

theorem VOK.op {s : Sem Value} {v : V} {st' : St} (h : VOK P G B ρ st w s v st') : OpOK P G B ρ st w (do pure (.value (← s))) v st' := by
  obtain ⟨r, w', ρ', h1, h2, h3⟩ := h
  exact ⟨r, w', ρ', .inl (by simp [h1]), h2, h3⟩
theorem VOK.pure (h : HRep P G B ρ st w) {s : Sem Value} {v : V} {r : Value} (h1 : s.run P w = .ok r w) (h2 : VRel ρ v r) : VOK P G B ρ st w s v st :=
  ⟨r, w, ρ, h1, h2, .refl h⟩
theorem OpOK.pure (h : HRep P G B ρ st w) {s : Sem Next} {v : V} {r : Value} (h1 : s.run P w = .ok (.value r) w) (h2 : VRel ρ v r) : OpOK P G B ρ st w s v st :=
  ⟨r, w, ρ, .inl h1, h2, .refl h⟩

/-! ### New blocks of cells -/
theorem orel_cells {ρ' : Rho} (le : ρ.le ρ') (hB : B ≤ w.heap.size) {cs : List V} {t : TypeId} {kd : Kd} {c : Array Value} {es : Nat} (hk : kd ≠ .ro) (hx : kd = .exact → cs.length = c.size) (hg : kd = .grown → sizeV P t = some es ∧ cs.length ≤ c.size)
    (hc : ∀ (i : Nat) (v : V), cs[i]? = some v → ∃ x, c[i]? = some x ∧ VRel ρ v x) (fz : Nat × Nat := (0, 0)) (hf : ∀ i, i < c.size → ¬ (fz.1 ≤ i ∧ i < fz.2) := by intro i _ h; simp at h) :
    ORel P B ρ' (.cells cs t kd) ⟨w.heap.size, 0, c.size, es⟩ { w with heap := w.heap.push (.cells c t fz) } := by
  have goal : B ≤ w.heap.size ∧ ∃ c' fz', ({ w with heap := w.heap.push (.cells c t fz) } : World).heap[w.heap.size]? = some (.cells c' t fz') ∧ 0 + c.size = c'.size ∧ cs.length ≤ c.size ∧
        (kd = .exact → 0 = 0 ∧ cs.length = c'.size) ∧ (kd = .grown → sizeV P t = some es) ∧
        (∀ i, i < c'.size → ¬ (fz'.1 ≤ i ∧ i < fz'.2)) ∧
        ∀ i v, cs[i]? = some v → ∃ x, c'[0 + i]? = some x ∧ VRel ρ' v x := by
    refine ⟨hB, c, fz, by simp, by omega, ?_, fun hk' => ⟨rfl, hx hk'⟩, fun hk' => (hg hk').1, hf, fun i v hi => ?_⟩
    · cases kd with
      | ro => exact absurd rfl hk
      | exact => rw [hx rfl]; exact Nat.le_refl _
      | grown => exact (hg rfl).2
    · obtain ⟨x, h1, h2⟩ := hc i v hi
      exact ⟨x, by rw [Nat.zero_add]; exact h1, VRel.mono le _ _ h2⟩
  unfold ORel
  cases kd with
  | ro => exact absurd rfl hk
  | exact => exact goal
  | grown => exact goal

theorem new_le (h : HRep P G B ρ st w) (L : Loc) : ρ.le (fun l => if l = st.n then some L else ρ l) := fun l M hl => by
  have : l ≠ st.n := fun e => by rw [e, h.fresh _ (Nat.le_refl _)] at hl; cases hl
  simp [this, hl]
theorem new_cells (h : HRep P G B ρ st w) {cs : List V} {t : TypeId} {kd : Kd} {c : Array Value} {es : Nat} (hk : kd ≠ .ro) (hx : kd = .exact → cs.length = c.size) (hg : kd = .grown → sizeV P t = some es ∧ cs.length ≤ c.size)
    (hc : ∀ (i : Nat) (v : V), cs[i]? = some v → ∃ x, c[i]? = some x ∧ VRel ρ v x) (fz : Nat × Nat := (0, 0)) (hf : ∀ i, i < c.size → ¬ (fz.1 ≤ i ∧ i < fz.2) := by intro i _ h; simp at h) :
    Step P G B ρ st w (fun l => if l = st.n then some ⟨w.heap.size, 0, c.size, es⟩ else ρ l) (st.new (.cells cs t kd)).2 { w with heap := w.heap.push (.cells c t fz) } :=
  Step.alloc h rfl (orel_cells (new_le h _) h.base hk hx hg hc fz hf)

theorem VRels.at {vs : List V} {c : Array Value} (h : VRels ρ vs c.toList) (i : Nat) (v : V) (hi : vs[i]? = some v) : ∃ x, c[i]? = some x ∧ VRel ρ v x := by
  obtain ⟨x, h1, h2⟩ := h.get i v hi
  exact ⟨x, by simpa using h1, h2⟩

/-! ### Copies of a zero -/
theorem copies_length (z : List V) : ∀ n, (copies z n).length = n * z.length
  | 0 => by simp [copies]
  | n + 1 => by simp [copies, copies_length z n, Nat.add_mul]; omega
theorem copies_get {z : List V} (hz : 0 < z.length) : ∀ (n i : Nat), i < n * z.length → (copies z n)[i]? = z[i % z.length]?
  | 0, i, h => by omega
  | n + 1, i, h => by
    rw [copies]
    by_cases hi : i < z.length
    · rw [List.getElem?_append_left hi, Nat.mod_eq_of_lt hi]
    · rw [List.getElem?_append_right (by omega), copies_get hz n (i - z.length) (by rw [Nat.add_mul, Nat.one_mul] at h; omega)]
      congr 1
      rw [Nat.mod_eq_sub_mod (a := i) (by omega)]
theorem zeros_rel {e : TypeId} {n : Nat} {zs : List V} (hz : zerosV P e n = some zs) : n = 0 ∧ zs = [] ∨ ∃ (z : Value) (s : Nat), 0 < s ∧ (∀ w, (zeroValue e).run P w = .ok z w) ∧ z.cells.size = s ∧ sizeV P e = some s ∧
    ∀ ρ, VRels ρ zs ((Array.range (n * s)).map (z.cells[· % z.cells.size]!)).toList := by
  cases n with
  | zero => simp [zerosV] at hz; exact .inl ⟨rfl, hz⟩
  | succ n =>
    refine .inr ?_
    simp only [zerosV] at hz
    cases e1 : zeroV P e with
    | none => simp [e1] at hz
    | some zv =>
      cases e2 : sizeV P e with
      | none => simp [e1, e2] at hz
      | some s =>
        simp only [e1, e2, Option.bind_some] at hz
        cases s with
        | zero => split at hz <;> simp_all
        | succ s =>
          split at hz
          · rename_i h1 h2
            have h1 := Nat.eq_of_beq_eq_true h1
            simp only [Option.some.injEq] at hz
            have hzero : ∃ z, (∀ w, (zeroValue e).run P w = .ok z w) ∧ ∀ ρ, VRel ρ zv z := by
              unfold zeroV at e1
              cases e3 : P.info? e with
              | none => simp [e3] at e1
              | some i =>
                cases e4 : i.zero with
                | none => simp [e3, e4] at e1
                | some x =>
                  simp [e3, e4] at e1
                  exact ⟨x, fun w => by simp [zeroValue, run_info e3, e4], fun ρ => ofConst_rel _ _ _ e1⟩
            obtain ⟨z, hz1, hz2⟩ := hzero
            have hsz : z.cells.size = s + 1 := by rw [cells_size (hz2 (fun _ => none))]; exact h1
            refine ⟨z, s + 1, by omega, hz1, hsz, rfl, fun ρ => ?_⟩
            subst hz
            refine VRels.of_get ?_ fun i v hi => ?_
            · simp [copies_length, h1]
            · have hil : i < (n + 1) * zv.cells.length := by
                by_cases hc : i < (n + 1) * zv.cells.length
                · exact hc
                · rw [List.getElem?_eq_none (by rw [copies_length]; omega)] at hi; cases hi
              rw [copies_get (by omega) _ _ hil, h1] at hi
              obtain ⟨x, hx1, hx2⟩ := (cells_rel (hz2 ρ)).at _ _ hi
              refine ⟨x, ?_, hx2⟩
              have hm : i % (s + 1) < z.cells.size := by rw [hsz]; exact Nat.mod_lt _ (by omega)
              have hx3 : z.cells[i % (s + 1)]! = x := by
                rw [getElem!_pos z.cells _ hm]
                rw [Array.getElem?_eq_getElem hm] at hx1
                exact Option.some.inj hx1
              rw [h1] at hil
              simp [hsz, hil, hx3]
          · cases hz

/-! ### Parts laid into a row -/
theorem fold_lay (off : Nat) : ∀ (xs : List Value) (k : Nat) (c : Array Value), (xs.zipIdx k).foldl (fun cs p => cs.setIfInBounds (off + p.2) p.1) c = layA c (off + k) xs
  | [], k, c => rfl
  | x :: xs, k, c => by
    rw [List.zipIdx_cons, List.foldl_cons, fold_lay off xs (k + 1)]
    rfl
theorem fill_ok {place : Nat → Option (Nat × Nat)} : ∀ {vs : List (Nat × V)} {xs : List (Nat × Value)} {cells us : List V} {c : Array Value}, fillV place cells vs = some us →
    vs.map (·.1) = xs.map (·.1) → VRels ρ (vs.map (·.2)) (xs.map (·.2)) → VRels ρ cells c.toList → ∃ d, Instr.fill place c xs = some d ∧ VRels ρ us d.toList
  | [], [], cells, us, c, hf, _, _, hc => by simp only [fillV, Option.some.injEq] at hf; subst hf; exact ⟨c, rfl, hc⟩
  | [], _ :: _, _, _, _, _, h, _, _ => by simp at h
  | _ :: _, [], _, _, _, _, h, _, _ => by simp at h
  | (i, v) :: vs, (j, x) :: xs, cells, us, c, hf, hi, hv, hc => by
    simp only [List.map_cons, List.cons.injEq] at hi
    obtain ⟨rfl, hi⟩ := hi
    obtain ⟨y, ys, e, hr, hv⟩ := hv
    simp only [List.map_cons, List.cons.injEq] at e
    obtain ⟨rfl, rfl⟩ := e
    have hr : VRel ρ v x := hr
    simp only [fillV] at hf
    cases e1 : place i with
    | none => simp [e1] at hf
    | some p =>
      simp only [e1, Option.bind_some] at hf
      split at hf
      · rename_i hb
        rw [Bool.and_eq_true] at hb
        have hb1 := Nat.eq_of_beq_eq_true hb.1
        have hb2 := Nat.le_of_ble_eq_true hb.2
        cases e2 : over cells p.1 v.cells with
        | none => simp [e2] at hf
        | some cs =>
          simp only [e2, Option.bind_some] at hf
          obtain ⟨o1, o2, o3⟩ := over_spec e2
          have hlen := hc.length
          rw [Array.length_toList] at hlen
          have hvl := cells_size hr
          have hlay : VRels ρ cs (layA c p.1 x.cells.toList).toList := by
            refine VRels.of_get (by rw [Array.length_toList, layA_size, o1, hlen]) fun k u hk => ?_
            rw [o3 k] at hk
            rw [Array.getElem?_toList, layA_get _ _ _ _ (by rw [Array.length_toList]; omega), Array.length_toList, hvl]
            by_cases hcnd : p.1 ≤ k ∧ k < p.1 + v.cells.length
            · rw [if_pos hcnd] at hk ⊢
              exact (cells_rel hr).get _ _ hk
            · rw [if_neg hcnd] at hk ⊢
              obtain ⟨z, z1, z2⟩ := hc.get _ _ hk
              exact ⟨z, by simpa using z1, z2⟩
          obtain ⟨d, d1, d2⟩ := fill_ok (place := place) hf hi hv hlay
          refine ⟨d, ?_, d2⟩
          rw [Instr.fill, e1]
          have hcnd : ¬ (x.cells.size ≠ p.2 || p.1 + x.cells.size > c.size) = true := by
            simp [hvl, hb1]; omega
          simp only [hcnd]
          rw [← d1]
          congr 1
          have := fold_lay p.1 x.cells.toList 0 c
          rw [Nat.add_zero] at this
          rw [← this, ← Array.foldl_toList]
          simp
      · cases hf

theorem fieldsV_run : ∀ {fs : List Field} {pl : List (Nat × Nat)}, fieldsV P fs = some pl → (fs.mapM fun f => (do Pure.pure (f.offset, ← sizeOf f.type) : Sem (Nat × Nat))).run P w = .ok pl w
  | [], pl, h => by simp only [fieldsV, Option.some.injEq] at h; subst h; simp
  | f :: fs, pl, h => by
    simp only [fieldsV] at h
    cases e : sizeV P f.type with
    | none => simp [e] at h
    | some n =>
      cases e2 : fieldsV P fs with
      | none => simp [e, e2] at h
      | some r =>
        simp [e, e2] at h
        subst h
        have := fieldsV_run e2
        rw [List.mapM_cons]
        simp only [Sem.run_bind, run_size e, Result.andThen_ok, Sem.run_pure, this]

theorem zip_parts {vs : List (Nat × V)} {ps : List (Nat × Operand)} {f : Operand → Value} (h1 : vs.map (·.1) = ps.map (·.1)) (h2 : VRels ρ (vs.map (·.2)) (ps.map fun x => f x.2)) :
    vs.map (·.1) = (ps.map fun p => (p.1, f p.2)).map (·.1) ∧ VRels ρ (vs.map (·.2)) ((ps.map fun p => (p.1, f p.2)).map (·.2)) := by
  constructor
  · rw [h1]; simp
  · rw [List.map_map]; exact h2

theorem build_ok (h : HRep P G B ρ st w) {t : TypeId} {vs : List (Nat × V)} {v : V} (hb : buildV P t vs = some v) {xs : Array (Nat × Value)} (h1 : vs.map (·.1) = xs.toList.map (·.1)) (h2 : VRels ρ (vs.map (·.2)) (xs.toList.map (·.2))) :
    VOK P G B ρ st w (Instr.build t xs) v st := by
  unfold buildV at hb
  cases e : zeroV P t with
  | none => simp [e] at hb
  | some z =>
    obtain ⟨x, hx, hr⟩ := run_zero (w := w) e
    simp only [e, Option.bind_some] at hb
    cases e1 : P.underlying t with
    | none => simp [e1] at hb
    | some d =>
      cases d <;> simp only [e1] at hb <;> try (cases hb; done)
      case array n el =>
        cases e2 : sizeV P el with
        | none => simp [e2] at hb
        | some s =>
          simp only [e2, Option.bind_some] at hb
          cases e3 : fillV (fun i => some (i * s, s)) z.cells vs with
          | none => simp [e3] at hb
          | some us =>
            simp [e3] at hb
            subst hb
            obtain ⟨d, d1, d2⟩ := fill_ok e3 h1 h2 (cells_rel (hr ρ))
            refine VOK.pure h (r := .agg d) ?_ ⟨d.toList, by simp, d2⟩
            simp [Instr.build, hx, run_und e1, run_size e2, d1]
      case struct fs =>
        cases e2 : fieldsV P fs.toList with
        | none => simp [e2] at hb
        | some pl =>
          simp only [e2, Option.bind_some] at hb
          cases e3 : fillV (pl[·]?) z.cells vs with
          | none => simp [e3] at hb
          | some us =>
            simp [e3] at hb
            subst hb
            obtain ⟨d, d1, d2⟩ := fill_ok e3 h1 h2 (cells_rel (hr ρ))
            refine VOK.pure h (r := .agg d) ?_ ⟨d.toList, by simp, d2⟩
            have hm : (fs.mapM fun f => (do Pure.pure (f.offset, ← sizeOf f.type) : Sem (Nat × Nat))).run P w = .ok pl.toArray w := by
              rw [Array.mapM_eq_mapM_toList]
              simp only [Sem.run_map, fieldsV_run e2, Result.andThen_ok]
            simp only [Instr.build, Sem.run_bind, hx, run_und e1, Result.andThen_ok, hm]
            simp [d1]
end
end Go.Vex
