/- VEX, part 3: the evaluator's plain operations are the model's: values, types, cells. Generic in the program. -/
import Derived.Test.YtbfagojdbebikaaGreatDoorVex2
import Derived.Laws.Sem
namespace Go.Vex
open Go Go.RowKit

section
variable {P : Program} {G B : Nat} {ρ : Rho} {st : St} {w : World}

theorem run_und {t : TypeId} {d : TypeDesc} (h : P.underlying t = some d) : (underlying t).run P w = .ok d w := by
  simp [underlying, h]
theorem run_info {t : TypeId} {i : TypeInfo} (h : P.info? t = some i) : (typeInfo t).run P w = .ok i w := by
  simp [typeInfo, h]
theorem sizeV_info {t : TypeId} {n : Nat} (h : sizeV P t = some n) : ∃ i, P.info? t = some i ∧ i.size = n := by
  unfold sizeV at h
  cases e : P.info? t with
  | none => simp [e] at h
  | some i => simp [e] at h; exact ⟨i, rfl, h⟩
theorem run_size {t : TypeId} {n : Nat} (h : sizeV P t = some n) : (sizeOf t).run P w = .ok n w := by
  obtain ⟨i, hi, hn⟩ := sizeV_info h
  simp [sizeOf, run_info hi, hn]
theorem run_isAgg {t : TypeId} {b : Bool} (h : isAggV P t = some b) : (isAgg t).run P w = .ok b w := by
  unfold isAggV at h
  cases e : P.underlying t with
  | none => simp [e] at h
  | some d => cases d <;> simp [e] at h <;> subst h <;> simp [isAgg, run_und e]

theorem mapM_cons {α β : Type} (f : α → Option β) (a : α) (l : List α) : (a :: l).mapM f = (f a).bind fun b => (l.mapM f).map (b :: ·) := by
  rw [List.mapM_cons]
  cases f a <;> simp
  cases l.mapM f <;> rfl
theorem ofConsts_rel (f : Value → Option V) (hf : ∀ x v, f x = some v → VRel ρ v x) : ∀ (xs : List Value) (vs : List V), xs.mapM f = some vs → VRels ρ vs xs
  | [], vs, h => by simp at h; subst h; rfl
  | x :: xs, vs, h => by
    rw [mapM_cons] at h
    cases e : f x with
    | none => simp [e] at h
    | some v =>
      cases e2 : xs.mapM f with
      | none => simp [e, e2] at h
      | some us =>
        simp [e, e2] at h
        subst h
        exact ⟨x, xs, rfl, hf x v e, ofConsts_rel f hf xs us e2⟩
theorem ofConst_rel : ∀ (d : Nat) (x : Value) (v : V), ofConst d x = some v → VRel ρ v x := by
  intro d
  induction d with
  | zero =>
    intro x v h
    unfold ofConst at h
    split at h <;> simp at h <;> first
      | (subst h; first | rfl | exact ⟨_, rfl, rfl⟩)
      | (rename_i he; cases he)
  | succ d ih =>
    intro x v h
    unfold ofConst at h
    split at h <;> simp at h <;> first
      | (subst h; first | rfl | exact ⟨_, rfl, rfl⟩)
      | skip
    · rename_i d2 cs he
      obtain rfl : d = d2 := Nat.succ.inj he
      obtain ⟨us, h1, h2⟩ := h
      subst h2
      exact ⟨cs.toList, by simp, ofConsts_rel _ ih _ _ h1⟩
    · rename_i d2 cs he
      obtain rfl : d = d2 := Nat.succ.inj he
      obtain ⟨us, h1, h2⟩ := h
      subst h2
      exact ⟨cs.toList, by simp, ofConsts_rel _ ih _ _ h1⟩
theorem run_zero {t : TypeId} {z : V} (h : zeroV P t = some z) : ∃ x, (zeroValue t).run P w = .ok x w ∧ ∀ ρ, VRel ρ z x := by
  unfold zeroV at h
  cases e : P.info? t with
  | none => simp [e] at h
  | some i =>
    cases e2 : i.zero with
    | none => simp [e, e2] at h
    | some x =>
      simp [e, e2] at h
      exact ⟨x, by simp [zeroValue, run_info e, e2], fun ρ => ofConst_rel _ _ _ h⟩

theorem cells_rel : ∀ {v : V} {x : Value}, VRel ρ v x → VRels ρ v.cells x.cells.toList
  | .int _ _, _, h => by subst h; exact ⟨_, _, rfl, rfl, rfl⟩
  | .bool _, _, h => by subst h; exact ⟨_, _, rfl, rfl, rfl⟩
  | .str _, _, h => by obtain ⟨b, rfl, hb⟩ := h; exact ⟨_, _, rfl, ⟨b, rfl, hb⟩, rfl⟩
  | .ptr _ _, _, h => by obtain ⟨L, h1, rfl⟩ := h; exact ⟨_, _, rfl, ⟨L, h1, rfl⟩, rfl⟩
  | .nptr, _, h => by subst h; exact ⟨_, _, rfl, rfl, rfl⟩
  | .slice _ _ _ (.k _), _, h => by obtain ⟨L, h1, h2, rfl⟩ := h; exact ⟨_, _, rfl, ⟨L, h1, h2, rfl⟩, rfl⟩
  | .slice _ _ _ (.u _), _, h => by obtain ⟨L, a, c, h1, h2, h3, h4, rfl⟩ := h; exact ⟨_, _, rfl, ⟨L, a, c, h1, h2, h3, h4, rfl⟩, rfl⟩
  | .nslice, _, h => by subst h; exact ⟨_, _, rfl, rfl, rfl⟩
  | .map _, _, h => by obtain ⟨L, h1, rfl⟩ := h; exact ⟨_, _, rfl, ⟨L, h1, rfl⟩, rfl⟩
  | .nmap, _, h => by subst h; exact ⟨_, _, rfl, rfl, rfl⟩
  | .func _ _ _, _, h => by obtain ⟨p, q, rfl, h1, h2⟩ := h; exact ⟨_, _, rfl, ⟨p, q, rfl, h1, h2⟩, rfl⟩
  | .yield _, _, h => by obtain ⟨L, h1, rfl⟩ := h; exact ⟨_, _, rfl, ⟨L, h1, rfl⟩, rfl⟩
  | .nfunc, _, h => by subst h; exact ⟨_, _, rfl, rfl, rfl⟩
  | .iface _ _, _, h => by obtain ⟨y, rfl, h1⟩ := h; exact ⟨_, _, rfl, ⟨y, rfl, h1⟩, rfl⟩
  | .niface, _, h => by subst h; exact ⟨_, _, rfl, rfl, rfl⟩
  | .agg _, _, h => by obtain ⟨xs, rfl, h1⟩ := h; simpa [V.cells, Value.cells] using h1
  | .tup _, _, h => by obtain ⟨xs, rfl, h1⟩ := h; exact ⟨_, _, rfl, ⟨xs, rfl, h1⟩, rfl⟩
theorem cells_size {v : V} {x : Value} (h : VRel ρ v x) : x.cells.size = v.cells.length := by
  rw [← (cells_rel h).length, Array.length_toList]
theorem isCell_rel {v : V} {x : Value} (h : VRel ρ v x) (hv : v.isCell = true) : x.oneCell' = true := by
  cases v <;> simp [V.isCell] at hv
  case int => cases h; rfl
  case bool => cases h; rfl
  case str => obtain ⟨b, rfl, _⟩ := h; rfl
  case ptr => obtain ⟨b, _, rfl⟩ := h; rfl
  case nptr => cases h; rfl
  case slice l o n c => cases c with
    | u es => obtain ⟨L, a, c, h1, h2, h3, h4, rfl⟩ := h; rfl
    | k c => obtain ⟨L, h1, h2, rfl⟩ := h; rfl
  case nslice => cases h; rfl
  case map => obtain ⟨L, _, rfl⟩ := h; rfl
  case nmap => cases h; rfl
  case func => obtain ⟨p, q, rfl, _⟩ := h; rfl
  case yield => obtain ⟨L, _, rfl⟩ := h; rfl
  case nfunc => cases h; rfl
  case iface => obtain ⟨y, rfl, _⟩ := h; rfl
  case niface => cases h; rfl

theorem undef_rel : VRel ρ undefV undef := ⟨[], rfl, rfl⟩

/-! ### Operands -/
theorem ev_rel (h : HRep P G B ρ st w) {ts : T V} {N : Nat} {a : Act} (ht : TRel ρ ts N a.tmps) {x : Operand} {v : V} (hv : ev G ts x = some v) : VRel ρ v (a.eval x) := by
  cases x with
  | tmp t => simp only [ev, Option.some.injEq] at hv; subst hv; exact ht.2 t
  | const u => exact ofConst_rel _ _ _ hv
  | global g =>
    simp only [ev] at hv
    split at hv
    · rename_i hg
      have hg' : g < G := Nat.le_of_ble_eq_true hg
      simp only [Option.some.injEq] at hv
      subst hv
      obtain ⟨L, h1, h2, h3⟩ := h.glob g hg'
      exact ⟨L, h1, by simp [Act.eval, Loc.at, h2, h3]⟩
    · cases hv
  | func f => simp only [ev, Option.some.injEq] at hv; subst hv; exact ⟨[], [], rfl, rfl, rfl⟩
theorem evs_rel (h : HRep P G B ρ st w) {ts : T V} {N : Nat} {a : Act} (ht : TRel ρ ts N a.tmps) : ∀ {xs : List Operand} {vs : List V}, evs G ts xs = some vs → VRels ρ vs (xs.map a.eval)
  | [], vs, hv => by simp only [evs, Option.some.injEq] at hv; subst hv; rfl
  | x :: xs, vs, hv => by
    simp only [evs] at hv
    cases e : ev G ts x with
    | none => simp [e] at hv
    | some v =>
      cases e2 : evs G ts xs with
      | none => simp [e, e2] at hv
      | some us =>
        simp [e, e2] at hv
        subst hv
        exact ⟨_, _, rfl, ev_rel h ht e, evs_rel h ht e2⟩
theorem partsV_rel (h : HRep P G B ρ st w) {ts : T V} {N : Nat} {a : Act} (ht : TRel ρ ts N a.tmps) : ∀ {xs : List (Nat × Operand)} {vs : List (Nat × V)}, partsV G ts xs = some vs →
    vs.map (·.1) = xs.map (·.1) ∧ VRels ρ (vs.map (·.2)) (xs.map fun x => a.eval x.2)
  | [], vs, hv => by simp only [partsV, Option.some.injEq] at hv; subst hv; exact ⟨rfl, rfl⟩
  | (i, x) :: xs, vs, hv => by
    simp only [partsV] at hv
    cases e : ev G ts x with
    | none => simp [e] at hv
    | some v =>
      cases e2 : partsV G ts xs with
      | none => simp [e, e2] at hv
      | some us =>
        simp [e, e2] at hv
        subst hv
        obtain ⟨h1, h2⟩ := partsV_rel h ht e2
        exact ⟨by simp [h1], _, _, rfl, ev_rel h ht e, h2⟩

/-! ### Lists of cells -/
theorem take_spec : ∀ {cs : List V} {n : Nat} {vs : List V}, cut.take cs n = some vs → vs.length = n ∧ ∀ i, i < n → vs[i]? = cs[i]?
  | cs, 0, vs, h => by simp only [cut.take, Option.some.injEq] at h; subst h; exact ⟨rfl, fun i hi => by omega⟩
  | [], n + 1, vs, h => by simp [cut.take] at h
  | v :: r, n + 1, vs, h => by
    simp only [cut.take] at h
    cases e : cut.take r n with
    | none => simp [e] at h
    | some us =>
      simp [e] at h
      subst h
      obtain ⟨h1, h2⟩ := take_spec e
      exact ⟨by simp [h1], fun i hi => by cases i with
        | zero => rfl
        | succ i => simpa using h2 i (by omega)⟩
theorem cut_spec : ∀ {cs : List V} {off n : Nat} {vs : List V}, cut cs off n = some vs → vs.length = n ∧ ∀ i, i < n → vs[i]? = cs[off + i]?
  | cs, 0, n, vs, h => by simpa using take_spec (by simpa only [cut] using h)
  | [], off + 1, n, vs, h => by simp [cut] at h
  | _ :: r, off + 1, n, vs, h => by
    simp only [cut] at h
    obtain ⟨h1, h2⟩ := cut_spec h
    exact ⟨h1, fun i hi => by rw [h2 i hi, show off + 1 + i = (off + i) + 1 by omega]; rfl⟩
theorem lay_spec : ∀ {cs vs us : List V}, over.lay cs vs = some us → us.length = cs.length ∧ vs.length ≤ cs.length ∧ ∀ i, us[i]? = if i < vs.length then vs[i]? else cs[i]?
  | cs, [], us, h => by
    cases cs <;> (simp only [over.lay, Option.some.injEq] at h; subst h; simp)
  | [], v :: vs, us, h => by simp [over.lay] at h
  | c :: r, v :: vs, us, h => by
    simp only [over.lay] at h
    cases e : over.lay r vs with
    | none => simp [e] at h
    | some ws =>
      simp [e] at h
      subst h
      obtain ⟨h1, h2, h3⟩ := lay_spec e
      refine ⟨by simp [h1], by simp; omega, fun i => ?_⟩
      cases i with
      | zero => simp
      | succ i => simp [h3 i]
theorem over_spec : ∀ {cs : List V} {off : Nat} {vs us : List V}, over cs off vs = some us → us.length = cs.length ∧ (vs ≠ [] → off + vs.length ≤ cs.length) ∧ ∀ i, us[i]? = if off ≤ i ∧ i < off + vs.length then vs[i - off]? else cs[i]?
  | cs, 0, vs, us, h => by
    have h' : over.lay cs vs = some us := by cases cs <;> simpa only [over] using h
    obtain ⟨h1, h2, h3⟩ := lay_spec h'
    exact ⟨h1, fun _ => by simpa using h2, fun i => by rw [h3 i]; simp⟩
  | [], off + 1, [], us, h => by simp only [over, Option.some.injEq] at h; subst h; exact ⟨rfl, fun h => absurd rfl h, fun i => by simp⟩
  | [], off + 1, _ :: _, us, h => by simp [over] at h
  | c :: r, off + 1, vs, us, h => by
    simp only [over] at h
    cases e : over r off vs with
    | none => simp [e] at h
    | some ws =>
      simp [e] at h
      subst h
      obtain ⟨h1, h2, h3⟩ := over_spec e
      refine ⟨by simp [h1], fun hne => by have := h2 hne; simp; omega, fun i => ?_⟩
      cases i with
      | zero => simp
      | succ i =>
        simp only [List.getElem?_cons_succ, h3 i]
        by_cases hc : off ≤ i ∧ i < off + vs.length
        · rw [if_pos hc, if_pos (by omega), show i + 1 - (off + 1) = i - off by omega]
        · rw [if_neg hc, if_neg (by omega)]

/-! ### Memory -/
theorem at_add (L : Loc) (o i : Nat) : (L.at o).add i = L.at (o + i) := by
  unfold Addr.add Loc.at
  split
  · rename_i h; subst h; rfl
  · simp [Nat.add_assoc]

/-- A cell that the label-heap knows. -/
theorem HRep.cell (h : HRep P G B ρ st w) {l : Nat} {cs : List V} {t : TypeId} {kd : Kd} {L : Loc} (hl : st.h.get l = some (.cells cs t kd)) (hL : ρ l = some L) {i : Nat} {v : V} (hi : cs[i]? = some v) :
    ∃ x, w.cell? (L.at i) = some x ∧ VRel ρ v x := by
  obtain ⟨L', hL', r⟩ := h.obj l _ hl
  obtain rfl : L' = L := Option.some.inj (hL'.symm.trans hL)
  unfold ORel at r
  cases kd with
  | ro => exact r i v hi
  | exact =>
    obtain ⟨_, c, fz, h2, _, _, _, _, _, h8⟩ := r
    obtain ⟨x, hx, hr⟩ := h8 i v hi
    exact ⟨x, by simp [World.cell?, Loc.at, h2, hx], hr⟩
  | grown =>
    obtain ⟨_, c, fz, h2, _, _, _, _, _, h8⟩ := r
    obtain ⟨x, hx, hr⟩ := h8 i v hi
    exact ⟨x, by simp [World.cell?, Loc.at, h2, hx], hr⟩

theorem run_loadCells (L : Loc) : ∀ (n o i : Nat) (vs : List V) (acc : Array Value), vs.length = n → (∀ j v, vs[j]? = some v → ∃ x, w.cell? (L.at (o + i + j)) = some x ∧ VRel ρ v x) →
    ∃ xs, (∀ w' : World, w'.heap = w.heap → (loadCellsFrom (L.at o) i n acc).run P w' = .ok (acc ++ xs.toArray) w') ∧ VRels ρ vs xs
  | 0, o, i, vs, acc, hn, _ => by
    obtain rfl := List.length_eq_zero_iff.1 hn
    exact ⟨[], fun w' _ => by simp [loadCellsFrom], rfl⟩
  | n + 1, o, i, [], acc, hn, _ => by simp at hn
  | n + 1, o, i, v :: vs, acc, hn, h => by
    obtain ⟨x, hx, hr⟩ := h 0 v rfl
    obtain ⟨xs, h1, h2⟩ := run_loadCells L n o (i + 1) vs (acc.push x) (by simpa using hn) fun j u hj => by
      have := h (j + 1) u (by simpa using hj)
      rwa [show o + i + (j + 1) = o + (i + 1) + j by omega] at this
    refine ⟨x :: xs, fun w' hw => ?_, x, xs, rfl, hr, h2⟩
    rw [Nat.add_zero] at hx
    have hx' : w'.cell? (L.at (o + i)) = some x := by rw [← hx]; simp only [World.cell?, hw]
    simp [loadCellsFrom, at_add, hx', h1 w' hw]

theorem run_part {t : TypeId} {cs : List V} {off : Nat} {v : V} (hv : partV P t cs off = some v) {xs : List Value} (hx : VRels ρ cs xs) : ∃ x, (part t xs.toArray off).run P w = .ok x w ∧ VRel ρ v x := by
  unfold partV at hv
  cases e : isAggV P t with
  | none => simp [e] at hv
  | some b =>
    cases b with
    | true =>
      simp only [e] at hv
      cases e2 : sizeV P t with
      | none => simp [e2] at hv
      | some n =>
        cases e3 : cut cs off n with
        | none => simp [e2, e3] at hv
        | some vs =>
          simp [e2, e3] at hv
          subst hv
          obtain ⟨h1, h2⟩ := cut_spec e3
          refine ⟨.agg (xs.toArray.extract off (off + n)), by simp [part, run_isAgg e, run_size e2], (xs.drop off).take n, by simp [List.extract_eq_take_drop], ?_⟩
          refine VRels.of_get ?_ fun i u hu => ?_
          · have hlen := hx.length
            by_cases hn : n = 0
            · subst hn; simp [h1]
            · have h3 := h2 (n - 1) (by omega)
              have h4 : (vs[n - 1]?).isSome = true := by rw [List.getElem?_eq_getElem (by omega)]; rfl
              rw [h3] at h4
              have h5 : off + (n - 1) < cs.length := by
                by_cases hc : off + (n - 1) < cs.length
                · exact hc
                · rw [List.getElem?_eq_none (by omega)] at h4; cases h4
              simp [h1]; omega
          · have hin : i < n := by
              by_cases hc : i < n
              · exact hc
              · rw [List.getElem?_eq_none (by omega)] at hu; cases hu
            rw [h2 i hin] at hu
            obtain ⟨x, hx1, hx2⟩ := hx.get _ _ hu
            exact ⟨x, by rw [List.getElem?_take, if_pos hin, List.getElem?_drop]; exact hx1, hx2⟩
    | false =>
      simp only [e] at hv
      obtain ⟨x, hx1, hx2⟩ := hx.get _ _ hv
      exact ⟨x, by simp [part, run_isAgg e, hx1], hx2⟩

theorem run_loadVar (h : HRep P G B ρ st w) {t : TypeId} {l off : Nat} {v : V} (hv : loadV P t l off st = some v) {L : Loc} (hL : ρ l = some L) :
    ∃ x, (loadVar t (L.at off)).run P w = .ok x w ∧ VRel ρ v x := by
  unfold loadV at hv
  cases eh : st.h.get l with
  | none => simp [eh] at hv
  | some o =>
    cases o with
    | cells cs ty kd =>
      simp only [eh] at hv
      unfold partV at hv
      cases e : isAggV P t with
      | none => simp [e] at hv
      | some b =>
        cases b with
        | true =>
          simp only [e] at hv
          cases e2 : sizeV P t with
          | none => simp [e2] at hv
          | some n =>
            cases e3 : cut cs off n with
            | none => simp [e2, e3] at hv
            | some vs =>
              simp [e2, e3] at hv
              subst hv
              obtain ⟨h1, h2⟩ := cut_spec e3
              obtain ⟨xs, h3, h4⟩ := run_loadCells (P := P) (w := w) (ρ := ρ) L n off 0 vs #[] h1 fun j u hj => by
                have hjn : j < n := by
                  by_cases hc : j < n
                  · exact hc
                  · rw [List.getElem?_eq_none (by omega)] at hj; cases hj
                rw [h2 j hjn] at hj
                rw [Nat.add_zero]
                exact h.cell eh hL hj
              exact ⟨.agg xs.toArray, by simp [loadVar, run_isAgg e, run_size e2, loadCells, h3 w rfl], xs, rfl, h4⟩
        | false =>
          simp only [e] at hv
          obtain ⟨x, hx, hr⟩ := h.cell eh hL hv
          exact ⟨x, by simp [loadVar, run_isAgg e, hx], hr⟩
    | map => simp [eh] at hv
    | loop => simp [eh] at hv
    | deferred => simp [eh] at hv

/-- The array with a list laid over it. -/
def layA (c : Array Value) : Nat → List Value → Array Value
  | _, [] => c
  | o, x :: xs => layA (c.setIfInBounds o x) (o + 1) xs
theorem layA_size : ∀ (xs : List Value) (c : Array Value) (o : Nat), (layA c o xs).size = c.size
  | [], _, _ => rfl
  | x :: xs, c, o => by rw [layA, layA_size]; simp
theorem layA_get : ∀ (xs : List Value) (c : Array Value) (o i : Nat), o + xs.length ≤ c.size → (layA c o xs)[i]? = if o ≤ i ∧ i < o + xs.length then xs[i - o]? else c[i]?
  | [], c, o, i, _ => by rw [layA, if_neg (by simp only [List.length_nil]; omega)]
  | x :: xs, c, o, i, h => by
    simp only [List.length_cons] at h
    rw [layA, layA_get xs _ _ _ (by simp; omega)]
    simp only [List.length_cons]
    by_cases h1 : i = o
    · subst h1
      rw [if_neg (by omega), if_pos (by omega), Array.getElem?_setIfInBounds_self_of_lt (by omega), Nat.sub_self]
      rfl
    · rw [Array.getElem?_setIfInBounds_ne (Ne.symm h1)]
      by_cases h2 : o + 1 ≤ i ∧ i < o + 1 + xs.length
      · rw [if_pos h2, if_pos (by omega), show i - o = (i - (o + 1)) + 1 by omega]; rfl
      · rw [if_neg h2, if_neg (by omega)]

theorem setBlock_same {h : Array Obj} {b : Nat} {o : Obj} (e : h[b]? = some o) : h.setIfInBounds b o = h := by
  apply Array.ext_getElem?
  intro i
  by_cases hi : b = i
  · subst hi
    have hb : b < h.size := (Array.getElem?_eq_some_iff.1 e).1
    rw [Array.getElem?_setIfInBounds_self_of_lt hb, e]
  · rw [Array.getElem?_setIfInBounds_ne hi]
theorem setCell_block {a : Addr} {v : Value} {c : Array Value} {t : TypeId} {fz : Nat × Nat} (e : w.heap[a.block]? = some (.cells c t fz)) (hs : a.spot = none) :
    w.setCell a v = { w with heap := w.heap.setIfInBounds a.block (.cells (c.setIfInBounds a.off v) t fz) } := by
  unfold World.setCell
  congr 1
  apply Array.ext_getElem?
  intro i
  rw [Array.getElem?_modify]
  by_cases hi : a.block = i
  · subst hi
    have hb : a.block < w.heap.size := (Array.getElem?_eq_some_iff.1 e).1
    rw [if_pos rfl, Array.getElem?_setIfInBounds_self_of_lt hb, e]
    simp [hs]
  · rw [if_neg hi, Array.getElem?_setIfInBounds_ne hi]

theorem run_storeCells (L : Loc) {t : TypeId} {fz : Nat × Nat} : ∀ (xs : List Value) (w : World) (c : Array Value) (o i : Nat), w.heap[L.blk]? = some (.cells c t fz) →
    L.off + o + i + xs.length ≤ c.size → (∀ i, i < c.size → ¬ (fz.1 ≤ i ∧ i < fz.2)) → (∀ x ∈ xs, x.oneCell' = true) →
    (storeCells (L.at o) xs i).run P w = .ok () { w with heap := w.heap.setIfInBounds L.blk (.cells (layA c (L.off + o + i) xs) t fz) }
  | [], w, c, o, i, h, _, _, _ => by simp [storeCells, layA, setBlock_same h]
  | x :: xs, w, c, o, i, h, hb, hf, hx => by
    simp only [List.length_cons] at hb
    have hcell : w.cell? (L.at (o + i)) = some (c[L.off + o + i]'(by omega)) := by
      simp only [World.cell?, Loc.at, h]
      simp [Nat.add_assoc]
    have hfr : w.frozen? (L.at (o + i)) = false := by
      simp only [World.frozen?, Loc.at, h]
      have := hf (L.off + o + i) (by omega)
      rw [Nat.add_assoc] at this
      simp only [Bool.and_eq_false_imp]
      exact fun h1 => decide_eq_false fun h2 => this ⟨of_decide_eq_true h1, h2⟩
    have hset := setCell_block (w := w) (a := L.at (o + i)) (v := x) (c := c) (t := t) (fz := fz) (by simpa [Loc.at] using h) rfl
    have hblk : L.blk < w.heap.size := (Array.getElem?_eq_some_iff.1 h).1
    have hrec := run_storeCells (t := t) (fz := fz) L xs (w.setCell (L.at (o + i)) x) (c.setIfInBounds (L.off + o + i) x) o (i + 1) (by
      rw [hset]; simp [Loc.at, Array.getElem?_setIfInBounds_self_of_lt hblk, Nat.add_assoc]) (by simp; omega) (by simpa using hf) (fun y hy => hx y (List.mem_cons_of_mem _ hy))
    simp only [storeCells, Sem.run_bind, at_add, run_store P w _ x .plain (hx x List.mem_cons_self), hcell, hfr, Bool.false_eq_true, if_false, Result.andThen_ok, hrec]
    rw [hset]
    simp [Loc.at, layA, Nat.add_assoc]

theorem all_isCell {vs : List V} {xs : List Value} (h : VRels ρ vs xs) (hv : vs.all V.isCell = true) : ∀ x ∈ xs, x.oneCell' = true := by
  intro x hx
  obtain ⟨i, hi⟩ := List.getElem?_of_mem hx
  have hlen := h.length
  have hil : i < vs.length := by
    have := (List.getElem?_eq_some_iff.1 hi).1
    omega
  obtain ⟨y, hy, hr⟩ := h.get i _ (List.getElem?_eq_getElem hil)
  obtain rfl : y = x := Option.some.inj (hy.symm.trans hi)
  exact isCell_rel hr (List.all_eq_true.1 hv _ (List.getElem_mem hil))

/-- Cells are stored into an own block. -/
theorem storeCells_ok (h : HRep P G B ρ st w) {l off : Nat} {vs : List V} {st' : St} (hs : storeCellsV l off vs st = some st') {L : Loc} (hL : ρ l = some L) {xs : List Value} (hx : VRels ρ vs xs) :
    ∃ w', (storeCells (L.at off) xs).run P w = .ok () w' ∧ Step P G B ρ st w ρ st' w' := by
  cases vs with
  | nil =>
    simp only [storeCellsV, Option.some.injEq] at hs
    subst hs
    obtain rfl : xs = [] := hx
    exact ⟨w, by simp [storeCells], .refl h⟩
  | cons v vs =>
    simp only [storeCellsV] at hs
    cases eh : st.h.get l with
    | none => simp [eh] at hs
    | some o =>
      cases o with
      | cells cs t kd =>
        simp only [eh] at hs
        have key : kd ≠ .ro → ((v :: vs).all V.isCell = true) → ∀ us, over cs off (v :: vs) = some us → st' = st.set l (.cells us t kd) →
            ∃ w', (storeCells (L.at off) xs).run P w = .ok () w' ∧ Step P G B ρ st w ρ st' w' := by
          intro hk hall us hus hst
          subst hst
          obtain ⟨L', hL', r⟩ := h.obj l _ eh
          obtain rfl : L' = L := Option.some.inj (hL'.symm.trans hL)
          obtain ⟨g1, g2, g3⟩ := over_spec hus
          have g2 := g2 (by simp)
          have hlen := hx.length
          have hown : Own (.cells cs t kd) = true := by cases kd <;> first | rfl | exact absurd rfl hk
          have hr : B ≤ L'.blk ∧ ∃ c fz, w.heap[L'.blk]? = some (.cells c t fz) ∧ L'.off + L'.tot = c.size ∧ cs.length ≤ L'.tot ∧
              (kd = .exact → L'.off = 0 ∧ cs.length = c.size) ∧ (kd = .grown → sizeV P t = some L'.es) ∧ (∀ i, i < c.size → ¬ (fz.1 ≤ i ∧ i < fz.2)) ∧
              ∀ i v, cs[i]? = some v → ∃ x, c[L'.off + i]? = some x ∧ VRel ρ v x := by
            unfold ORel at r
            cases kd <;> first | exact r | exact absurd rfl hk
          obtain ⟨h1, c, fz, h2, h3, h4, h5, h5', h6, h7⟩ := hr
          refine ⟨_, run_storeCells L' xs w c off 0 h2 (by omega) h6 (all_isCell hx hall), Step.write h eh hown hL ?_⟩
          have hblk : L'.blk < w.heap.size := (Array.getElem?_eq_some_iff.1 h2).1
          have goal : B ≤ L'.blk ∧ ∃ c' fz', ({ w with heap := w.heap.setIfInBounds L'.blk (.cells (layA c (L'.off + off + 0) xs) t fz) } : World).heap[L'.blk]? = some (.cells c' t fz') ∧ L'.off + L'.tot = c'.size ∧ us.length ≤ L'.tot ∧
              (kd = .exact → L'.off = 0 ∧ us.length = c'.size) ∧ (kd = .grown → sizeV P t = some L'.es) ∧ (∀ i, i < c'.size → ¬ (fz'.1 ≤ i ∧ i < fz'.2)) ∧
              ∀ i v, us[i]? = some v → ∃ x, c'[L'.off + i]? = some x ∧ VRel ρ v x := by
            refine ⟨h1, layA c (L'.off + off + 0) xs, fz, by simp [Array.getElem?_setIfInBounds_self_of_lt hblk], by rw [layA_size]; exact h3, by omega, fun hk' => by
              have := h5 hk'; rw [layA_size]; omega, h5', by rw [layA_size]; exact h6, fun i u hu => ?_⟩
            rw [layA_get _ _ _ _ (by omega)]
            rw [g3 i] at hu
            by_cases hc : off ≤ i ∧ i < off + (v :: vs).length
            · rw [if_pos hc] at hu
              obtain ⟨x, hx1, hx2⟩ := hx.get _ _ hu
              refine ⟨x, ?_, hx2⟩
              rw [if_pos (by omega), show L'.off + i - (L'.off + off + 0) = i - off by omega]
              exact hx1
            · rw [if_neg hc] at hu
              obtain ⟨x, hx1, hx2⟩ := h7 i u hu
              refine ⟨x, ?_, hx2⟩
              rw [if_neg (by omega)]
              exact hx1
          unfold ORel
          cases kd
          · exact goal
          · exact goal
          · exact absurd rfl hk
        cases kd with
        | ro => simp at hs
        | exact =>
          simp only at hs
          split at hs
          · rename_i hall
            cases e : over cs off (v :: vs) with
            | none => simp [e] at hs
            | some us => simp [e] at hs; exact key (by simp) hall us e hs.symm
          · cases hs
        | grown =>
          simp only at hs
          split at hs
          · rename_i hall
            cases e : over cs off (v :: vs) with
            | none => simp [e] at hs
            | some us => simp [e] at hs; exact key (by simp) hall us e hs.symm
          · cases hs
      | map => simp [eh] at hs
      | loop => simp [eh] at hs
      | deferred => simp [eh] at hs

theorem storeVar_ok (h : HRep P G B ρ st w) {t : TypeId} {l off : Nat} {v : V} {st' : St} (hs : storeV P t l off v st = some st') {L : Loc} (hL : ρ l = some L) {x : Value} (hx : VRel ρ v x) :
    ∃ w', (storeVar t (L.at off) x).run P w = .ok () w' ∧ Step P G B ρ st w ρ st' w' := by
  unfold storeV at hs
  cases e : sizeV P t with
  | none => simp [e] at hs
  | some n =>
    simp only [e, Option.bind_some] at hs
    split at hs
    · rename_i hn
      have hn := Nat.eq_of_beq_eq_true hn
      obtain ⟨w', h1, h2⟩ := storeCells_ok h hs hL (cells_rel hx)
      exact ⟨w', by simp [storeVar, run_size e, cells_size hx, hn, h1], h2⟩
    · cases hs
end
end Go.Vex
