/- VEX, part 2: what a label-value says of a value of the model, what a label-heap says of a world, and how one step leads on. Generic in the program. -/
import Derived.Test.YtbfagojdbebikaaGreatDoorVex1
import Derived.Below
namespace Go.Vex
open Go Go.RowKit

namespace T
variable {α : Type}
theorem half_odd {k : Nat} (h1 : Nat.beq (k % 2) 1 = true) : k = 2 * (k / 2) + 1 := by
  have := Nat.eq_of_beq_eq_true h1
  omega
theorem half_even {k : Nat} (h0 : Nat.beq k 0 = false) (h1 : Nat.beq (k % 2) 1 = false) : k = 2 * (k / 2 - 1) + 2 := by
  have a := Nat.ne_of_beq_eq_false h0
  have b := Nat.ne_of_beq_eq_false h1
  omega
theorem get_leaf (j : Nat) : (leaf : T α).get j = none := by unfold get; rfl
theorem get_node (l r : T α) (v : Option α) (j : Nat) : (node l v r).get j =
    match Nat.beq j 0 with
    | true => v
    | false => match Nat.beq (j % 2) 1 with
      | true => l.get (j / 2)
      | false => r.get (j / 2 - 1) := by rw [get]; rfl
theorem get_node_zero (l r : T α) (v : Option α) : (node l v r).get 0 = v := by rw [get_node]
theorem get_node_odd (l r : T α) (v : Option α) (j : Nat) : (node l v r).get (2 * j + 1) = l.get j := by
  rw [get_node]
  have h0 : Nat.beq (2 * j + 1) 0 = false := rfl
  have h1 : Nat.beq ((2 * j + 1) % 2) 1 = true := by rw [show (2 * j + 1) % 2 = 1 by omega]; rfl
  rw [h0, h1, show (2 * j + 1) / 2 = j by omega]
theorem get_node_even (l r : T α) (v : Option α) (j : Nat) : (node l v r).get (2 * j + 2) = r.get j := by
  rw [get_node]
  have h0 : Nat.beq (2 * j + 2) 0 = false := rfl
  have h1 : Nat.beq ((2 * j + 2) % 2) 1 = false := by rw [show (2 * j + 2) % 2 = 0 by omega]; rfl
  rw [h0, h1, show (2 * j + 2) / 2 - 1 = j by omega]
theorem cases_nat (j : Nat) : j = 0 ∨ (∃ i, j = 2 * i + 1) ∨ (∃ i, j = 2 * i + 2) := by
  rcases Nat.eq_zero_or_pos j with h | h
  · exact .inl h
  · rcases Nat.mod_two_eq_zero_or_one j with h2 | h2
    · exact .inr (.inr ⟨j / 2 - 1, by omega⟩)
    · exact .inr (.inl ⟨j / 2, by omega⟩)
theorem get_single (f : Nat) : ∀ (k : Nat) (x : Option α) (j : Nat), k < f → (single f k x).get j = if j = k then x else none := by
  induction f with
  | zero => intro k x j h; omega
  | succ f ih =>
    intro k x j h
    rw [single]
    cases h0 : Nat.beq k 0 with
    | true =>
      have hk := Nat.eq_of_beq_eq_true h0
      subst hk
      rcases cases_nat j with rfl | ⟨i, rfl⟩ | ⟨i, rfl⟩
      · simp [get_node_zero]
      · simp [get_node_odd, get_leaf]
      · simp [get_node_even, get_leaf]
    | false =>
      cases h1 : Nat.beq (k % 2) 1 with
      | true =>
        have hk := half_odd h1
        rcases cases_nat j with rfl | ⟨i, rfl⟩ | ⟨i, rfl⟩
        · simp only [get_node_zero]; rw [if_neg (by omega)]
        · simp only [get_node_odd]; rw [ih _ _ _ (by omega)]; by_cases hi : i = k / 2
          · rw [if_pos hi, if_pos (by omega)]
          · rw [if_neg hi, if_neg (by omega)]
        · simp only [get_node_even, get_leaf]; rw [if_neg (by omega)]
      | false =>
        have hk := half_even h0 h1
        rcases cases_nat j with rfl | ⟨i, rfl⟩ | ⟨i, rfl⟩
        · simp only [get_node_zero]; rw [if_neg (by omega)]
        · simp only [get_node_odd, get_leaf]; rw [if_neg (by omega)]
        · simp only [get_node_even]; rw [ih _ _ _ (by omega)]; by_cases hi : i = k / 2 - 1
          · rw [if_pos hi, if_pos (by omega)]
          · rw [if_neg hi, if_neg (by omega)]
theorem get_put (t : T α) : ∀ (k : Nat) (x : Option α) (j : Nat), (t.put k x).get j = if j = k then x else t.get j := by
  induction t with
  | leaf =>
    intro k x j
    rw [put, get_single _ _ _ _ (by omega)]
    simp [get_leaf]
  | node l v r ihl ihr =>
    intro k x j
    rw [put]
    cases h0 : Nat.beq k 0 with
    | true =>
      have hk := Nat.eq_of_beq_eq_true h0
      subst hk
      rcases cases_nat j with rfl | ⟨i, rfl⟩ | ⟨i, rfl⟩
      · simp [get_node_zero]
      · simp [get_node_odd]
      · simp [get_node_even]
    | false =>
      cases h1 : Nat.beq (k % 2) 1 with
      | true =>
        have hk := half_odd h1
        rcases cases_nat j with rfl | ⟨i, rfl⟩ | ⟨i, rfl⟩
        · simp only [get_node_zero]; rw [if_neg (by omega)]
        · simp only [get_node_odd]; rw [ihl]; by_cases hi : i = k / 2
          · rw [if_pos hi, if_pos (by omega)]
          · rw [if_neg hi, if_neg (by omega)]
        · simp only [get_node_even]; rw [if_neg (by omega)]
      | false =>
        have hk := half_even h0 h1
        rcases cases_nat j with rfl | ⟨i, rfl⟩ | ⟨i, rfl⟩
        · simp only [get_node_zero]; rw [if_neg (by omega)]
        · simp only [get_node_odd]; rw [if_neg (by omega)]
        · simp only [get_node_even]; rw [ihr]; by_cases hi : i = k / 2 - 1
          · rw [if_pos hi, if_pos (by omega)]
          · rw [if_neg hi, if_neg (by omega)]
theorem get_put_self (t : T α) (k : Nat) (x : Option α) : (t.put k x).get k = x := by rw [get_put, if_pos rfl]
theorem get_put_ne (t : T α) {k j : Nat} (x : Option α) (h : j ≠ k) : (t.put k x).get j = t.get j := by rw [get_put, if_neg h]
end T

/-- Where a label's block lies: its number, the cell from which the label counts, how many cells there are from there on, and the cells of an element. -/
structure Loc where
  blk : Nat
  off : Nat
  tot : Nat
  es : Nat

def Loc.at (L : Loc) (o : Nat) : Addr := ⟨L.blk, L.off + o, none⟩

abbrev Rho := Nat → Option Loc

mutual
/-- What a label-value says of a value. -/
def VRel (ρ : Rho) : V → Value → Prop
  | .int k n, x => x = .int k n
  | .bool b, x => x = .bool b
  | .str s, x => ∃ b : ByteArray, x = .string b ∧ b.data.toList.map UInt8.toNat = s
  | .ptr l o, x => ∃ L, ρ l = some L ∧ x = .pointer (some (L.at o))
  | .nptr, x => x = .pointer none
  | .slice l o n (.k c), x => ∃ L, ρ l = some L ∧ n ≤ c ∧ x = .slice (some (L.at o)) n c
  | .slice l o n (.u es), x => ∃ L a c, (ρ l = some L ∧ L.es = es) ∧ n ≤ c ∧ o + c * es = L.tot ∧ (0 < c → a = L.at o) ∧ x = .slice (some a) n c
  | .nslice, x => x = .slice none 0 0
  | .map l, x => ∃ L, ρ l = some L ∧ x = .map (some L.blk)
  | .nmap, x => x = .map none
  | .func f p q, x => ∃ p' q', x = .func (.func f) p'.toArray q'.toArray ∧ VRels ρ p p' ∧ VRels ρ q q'
  | .yield l, x => ∃ L, ρ l = some L ∧ x = .func (.yield L.blk) #[] #[]
  | .nfunc, x => x = .nilFunc
  | .iface t v, x => ∃ y, x = .iface t y ∧ VRel ρ v y
  | .niface, x => x = .nilIface
  | .agg cs, x => ∃ xs, x = .agg xs.toArray ∧ VRels ρ cs xs
  | .tup cs, x => ∃ xs, x = .tuple xs.toArray ∧ VRels ρ cs xs
def VRels (ρ : Rho) : List V → List Value → Prop
  | [], xs => xs = []
  | v :: vs, xs => ∃ y ys, xs = y :: ys ∧ VRel ρ v y ∧ VRels ρ vs ys
end

def Rho.le (ρ ρ' : Rho) : Prop := ∀ l L, ρ l = some L → ρ' l = some L
theorem Rho.le.refl (ρ : Rho) : ρ.le ρ := fun _ _ h => h
theorem Rho.le.trans {a b c : Rho} (h : a.le b) (k : b.le c) : a.le c := fun l L hl => k l L (h l L hl)

mutual
theorem VRel.mono {ρ ρ' : Rho} (h : ρ.le ρ') : ∀ (v : V) (x : Value), VRel ρ v x → VRel ρ' v x
  | .int _ _, _, r => r
  | .bool _, _, r => r
  | .str _, _, r => r
  | .ptr _ _, _, ⟨L, e, r⟩ => ⟨L, h _ _ e, r⟩
  | .nptr, _, r => r
  | .slice _ _ _ (.k _), _, ⟨L, e, r⟩ => ⟨L, h _ _ e, r⟩
  | .slice _ _ _ (.u _), _, ⟨L, a, c, e, r⟩ => ⟨L, a, c, ⟨h _ _ e.1, e.2⟩, r⟩
  | .nslice, _, r => r
  | .map _, _, ⟨L, e, r⟩ => ⟨L, h _ _ e, r⟩
  | .nmap, _, r => r
  | .func _ p q, _, ⟨p', q', e, r, s⟩ => ⟨p', q', e, VRels.mono h p p' r, VRels.mono h q q' s⟩
  | .yield _, _, ⟨L, e, r⟩ => ⟨L, h _ _ e, r⟩
  | .nfunc, _, r => r
  | .iface _ v, _, ⟨y, e, r⟩ => ⟨y, e, VRel.mono h v y r⟩
  | .niface, _, r => r
  | .agg cs, _, ⟨xs, e, r⟩ => ⟨xs, e, VRels.mono h cs xs r⟩
  | .tup cs, _, ⟨xs, e, r⟩ => ⟨xs, e, VRels.mono h cs xs r⟩
theorem VRels.mono {ρ ρ' : Rho} (h : ρ.le ρ') : ∀ (vs : List V) (xs : List Value), VRels ρ vs xs → VRels ρ' vs xs
  | [], _, r => r
  | v :: vs, _, ⟨y, ys, e, r, s⟩ => ⟨y, ys, e, VRel.mono h v y r, VRels.mono h vs ys s⟩
end

theorem VRels.nil {ρ : Rho} : VRels ρ [] [] := rfl
theorem VRels.cons {ρ : Rho} {v : V} {x : Value} {vs : List V} {xs : List Value} (h : VRel ρ v x) (k : VRels ρ vs xs) : VRels ρ (v :: vs) (x :: xs) := ⟨x, xs, rfl, h, k⟩
theorem VRels.length {ρ : Rho} : ∀ {vs : List V} {xs : List Value}, VRels ρ vs xs → xs.length = vs.length
  | [], _, h => by rw [show _ = [] from h]; rfl
  | v :: vs, _, ⟨y, ys, e, _, s⟩ => by rw [e, List.length_cons, List.length_cons, VRels.length s]
theorem VRels.get {ρ : Rho} : ∀ {vs : List V} {xs : List Value}, VRels ρ vs xs → ∀ (i : Nat) (v : V), vs[i]? = some v → ∃ x, xs[i]? = some x ∧ VRel ρ v x
  | [], _, _, i, v, h => by simp at h
  | u :: vs, _, ⟨y, ys, e, r, s⟩, 0, v, h => by
    subst e
    simp only [List.getElem?_cons_zero, Option.some.injEq] at h
    exact ⟨y, rfl, h ▸ r⟩
  | u :: vs, _, ⟨y, ys, e, r, s⟩, i + 1, v, h => by
    subst e
    simp only [List.getElem?_cons_succ] at h ⊢
    exact VRels.get s i v h
theorem VRels.append {ρ : Rho} : ∀ {vs ws : List V} {xs ys : List Value}, VRels ρ vs xs → VRels ρ ws ys → VRels ρ (vs ++ ws) (xs ++ ys)
  | [], _, _, _, h, k => by rw [show _ = [] from h]; exact k
  | v :: vs, _, _, _, ⟨y, ys, e, r, s⟩, k => by subst e; exact ⟨y, _, rfl, r, VRels.append s k⟩
/-- Lists that fit place by place. -/
theorem VRels.of_get {ρ : Rho} : ∀ {vs : List V} {xs : List Value}, xs.length = vs.length → (∀ (i : Nat) (v : V), vs[i]? = some v → ∃ x, xs[i]? = some x ∧ VRel ρ v x) → VRels ρ vs xs
  | [], xs, hl, _ => by
    have : xs = [] := List.length_eq_zero_iff.1 (by simpa using hl)
    exact this
  | v :: vs, [], hl, _ => by simp at hl
  | v :: vs, x :: xs, hl, h => by
    have h0 := h 0 v rfl
    simp only [List.getElem?_cons_zero, Option.some.injEq] at h0
    obtain ⟨x', e, r⟩ := h0
    subst e
    exact ⟨_, xs, rfl, r, VRels.of_get (by simpa using hl) fun i u hu => by
      have := h (i + 1) u (by simpa using hu)
      simpa using this⟩

def Own : HObj → Bool
  | .cells _ _ .ro => false
  | _ => true

/-- A frame's temporaries. -/
def TRel (ρ : Rho) (ts : T V) (N : Nat) (tmps : Array Value) : Prop :=
  tmps.size = N ∧ ∀ t, VRel ρ ((ts.get t).getD undefV) (tmps.getD t undef)

theorem TRel.mono {ρ ρ' : Rho} (h : ρ.le ρ') {ts : T V} {N : Nat} {tmps : Array Value} (k : TRel ρ ts N tmps) : TRel ρ' ts N tmps :=
  ⟨k.1, fun t => VRel.mono h _ _ (k.2 t)⟩

def ERel (ρ : Rho) : List (V × V × Nat) → List MapEntry → Prop
  | [], es => es = []
  | e :: r, es => ∃ m ms, es = m :: ms ∧ VRel ρ e.1 m.key ∧ VRel ρ e.2.1 m.val ∧ m.born = e.2.2 ∧ ERel ρ r ms

theorem ERel.mono {ρ ρ' : Rho} (h : ρ.le ρ') : ∀ {es : List (V × V × Nat)} {ms : List MapEntry}, ERel ρ es ms → ERel ρ' es ms
  | [], _, r => r
  | _ :: _, _, ⟨m, ms, x, a, b, c, d⟩ => ⟨m, ms, x, VRel.mono h _ _ a, VRel.mono h _ _ b, c, ERel.mono h d⟩

/-- What an object of the label-heap says of a world. -/
def ORel (P : Program) (B : Nat) (ρ : Rho) (o : HObj) (L : Loc) (w : World) : Prop :=
  match o with
  | .cells cs t kd =>
    match kd with
    | .ro => ∀ i v, cs[i]? = some v → ∃ x, w.cell? (L.at i) = some x ∧ VRel ρ v x
    | kd => B ≤ L.blk ∧ ∃ c fz, w.heap[L.blk]? = some (.cells c t fz) ∧ L.off + L.tot = c.size ∧ cs.length ≤ L.tot ∧
        (kd = .exact → L.off = 0 ∧ cs.length = c.size) ∧ (kd = .grown → sizeV P t = some L.es) ∧
        (∀ i, i < c.size → ¬ (fz.1 ≤ i ∧ i < fz.2)) ∧
        ∀ i v, cs[i]? = some v → ∃ x, c[L.off + i]? = some x ∧ VRel ρ v x
  | .map es clock => B ≤ L.blk ∧ ∃ ms, w.heap[L.blk]? = some (.map ms clock) ∧ ERel ρ es ms.toList
  | .loop s pend ts N params as_ b dl => B ≤ L.blk ∧ ∃ r, w.heap[L.blk]? = some (.loop r) ∧ r.state = s ∧ r.pending = pend ∧ TRel ρ ts N r.tmps ∧
      r.params.toList = params ∧ r.assign = as_ ∧ r.body = b ∧ ∃ D, ρ dl = some D ∧ r.defers = D.blk
  | .deferred live => B ≤ L.blk ∧ w.heap[L.blk]? = some (.deferred (if live then some [] else none))

/-- What a label-heap says of a world: G variables of the program, the blocks of the caller lie below B. -/
structure HRep (P : Program) (G B : Nat) (ρ : Rho) (st : St) (w : World) : Prop where
  obj : ∀ l o, st.h.get l = some o → ∃ L, ρ l = some L ∧ ORel P B ρ o L w
  apart : ∀ l l' o o' L L', st.h.get l = some o → st.h.get l' = some o' → l ≠ l' → Own o = true → ρ l = some L → ρ l' = some L' → L.blk ≠ L'.blk
  fresh : ∀ l, st.n ≤ l → ρ l = none
  size : ∀ l L, ρ l = some L → L.blk < w.heap.size
  glob : ∀ g, g < G → ∃ L, ρ g = some L ∧ L.blk = g ∧ L.off = 0
  base : B ≤ w.heap.size

/-- From one world to another: what is not an own block of the label-heap is as it was. -/
structure Kept (ρ : Rho) (st : St) (w w' : World) : Prop where
  os : w'.os = w.os
  tape : w'.tape = w.tape
  output : w'.output = w.output
  size : w.heap.size ≤ w'.heap.size
  block : ∀ k, k < w.heap.size → (∀ l o L, st.h.get l = some o → Own o = true → ρ l = some L → L.blk ≠ k) → w'.heap[k]? = w.heap[k]?

structure Step (P : Program) (G B : Nat) (ρ : Rho) (st : St) (w : World) (ρ' : Rho) (st' : St) (w' : World) : Prop where
  le : ρ.le ρ'
  rep : HRep P G B ρ' st' w'
  n : st.n ≤ st'.n
  kept : Kept ρ st w w'
  own : ∀ l o L, st'.h.get l = some o → ρ' l = some L → w.heap.size ≤ L.blk ∨ ∃ l₀ o₀ L₀, st.h.get l₀ = some o₀ ∧ ρ l₀ = some L₀ ∧ L₀.blk = L.blk ∧ (Own o = true → Own o₀ = true)
  old : ∀ l, l < st.n → ∀ L, ρ' l = some L → ρ l = some L

section
variable {P : Program} {G B : Nat} {ρ ρ' ρ'' : Rho} {st st' st'' : St} {w w' w'' : World}

theorem Step.refl (h : HRep P G B ρ st w) : Step P G B ρ st w ρ st w :=
  ⟨.refl _, h, Nat.le_refl _, ⟨rfl, rfl, rfl, Nat.le_refl _, fun _ _ _ => rfl⟩, fun l o L h1 h3 => .inr ⟨l, o, L, h1, h3, rfl, id⟩, fun _ _ _ h => h⟩

theorem Step.trans (h : Step P G B ρ st w ρ' st' w') (k : Step P G B ρ' st' w' ρ'' st'' w'') : Step P G B ρ st w ρ'' st'' w'' := by
  refine ⟨h.le.trans k.le, k.rep, Nat.le_trans h.n k.n, ⟨k.kept.os.trans h.kept.os, k.kept.tape.trans h.kept.tape, k.kept.output.trans h.kept.output, Nat.le_trans h.kept.size k.kept.size, ?_⟩, ?_, ?_⟩
  · intro j hj hno
    rw [← h.kept.block j hj hno]
    refine k.kept.block j (Nat.lt_of_lt_of_le hj h.kept.size) fun l o L h1 h2 h3 => ?_
    rcases h.own l o L h1 h3 with h4 | ⟨l₀, o₀, L₀, a, b, c, d⟩
    · omega
    · exact c ▸ hno l₀ o₀ L₀ a (d h2) b
  · intro l o L h1 h3
    rcases k.own l o L h1 h3 with h4 | ⟨l₀, o₀, L₀, a, b, c, d⟩
    · exact .inl (Nat.le_trans h.kept.size h4)
    · rcases h.own l₀ o₀ L₀ a b with h5 | ⟨l₁, o₁, L₁, a', b', c', d'⟩
      · exact .inl (c ▸ h5)
      · exact .inr ⟨l₁, o₁, L₁, a', b', c'.trans c, fun x => d' (d x)⟩
  · intro l hl L hL
    exact h.old l hl L (k.old l (Nat.lt_of_lt_of_le hl h.n) L hL)

/-- An own block of the label-heap lies from B on. -/
theorem HRep.own_ge (h : HRep P G B ρ st w) {l : Nat} {o : HObj} {L : Loc} (hl : st.h.get l = some o) (ho : Own o = true) (hL : ρ l = some L) : B ≤ L.blk := by
  obtain ⟨L', hL', r⟩ := h.obj l o hl
  obtain rfl : L' = L := Option.some.inj (hL'.symm.trans hL)
  unfold ORel at r
  cases o with
  | cells cs t kd => cases kd with
    | ro => simp [Own] at ho
    | exact => exact r.1
    | grown => exact r.1
  | map => exact r.1
  | loop => exact r.1
  | deferred => exact r.1

theorem Step.below (h : HRep P G B ρ st w) (k : Step P G B ρ st w ρ' st' w') : Below B w w' :=
  ⟨k.kept.os, k.kept.tape, k.kept.output, k.kept.size, fun i hi => k.kept.block i (Nat.lt_of_lt_of_le hi h.base) fun l o L h1 h2 h3 => by
    have := h.own_ge h1 h2 h3; omega⟩

/-- The label-heap says the same of a world whose blocks below the old size, but one block, are as they were. -/
theorem ORel.of_block {o : HObj} {L : Loc} (h : ORel P B ρ o L w) (le : ρ.le ρ') (hb : w'.heap[L.blk]? = w.heap[L.blk]?) : ORel P B ρ' o L w' := by
  unfold ORel at h ⊢
  cases o with
  | cells cs t kd => cases kd with
    | ro =>
      intro i v hi
      obtain ⟨x, hx, r⟩ := h i v hi
      refine ⟨x, ?_, VRel.mono le _ _ r⟩
      rw [World.cell?_of_block (w := w) (by simpa [Loc.at] using hb)]
      exact hx
    | exact =>
      obtain ⟨h1, c, fz, h2, h3, h4, h5, h6, h7, h8⟩ := h
      exact ⟨h1, c, fz, hb.trans h2, h3, h4, h5, h6, h7, fun i v hi => let ⟨x, a, b⟩ := h8 i v hi; ⟨x, a, VRel.mono le _ _ b⟩⟩
    | grown =>
      obtain ⟨h1, c, fz, h2, h3, h4, h5, h6, h7, h8⟩ := h
      exact ⟨h1, c, fz, hb.trans h2, h3, h4, h5, h6, h7, fun i v hi => let ⟨x, a, b⟩ := h8 i v hi; ⟨x, a, VRel.mono le _ _ b⟩⟩
  | map es clock =>
    obtain ⟨h1, ms, h2, h3⟩ := h
    exact ⟨h1, ms, hb.trans h2, h3.mono le⟩
  | loop s pend ts N params as_ b dl =>
    obtain ⟨h1, r, h2, h3, h4, h5, h6, h7, h8, D, h9, h10⟩ := h
    exact ⟨h1, r, hb.trans h2, h3, h4, h5.mono le, h6, h7, h8, D, le _ _ h9, h10⟩
  | deferred live => exact ⟨h.1, hb.trans h.2⟩

/-- A draw turns nothing. -/
theorem HRep.drew (h : HRep P G B ρ st w) (n : Nat) : HRep P G B ρ st { w with drawn := n } :=
  ⟨fun l o hl => let ⟨L, a, b⟩ := h.obj l o hl; ⟨L, a, b.of_block (.refl _) rfl⟩, h.apart, h.fresh, h.size, h.glob, h.base⟩
theorem Step.drew (h : HRep P G B ρ st w) (n : Nat) : Step P G B ρ st w ρ st { w with drawn := n } :=
  ⟨.refl _, h.drew n, Nat.le_refl _, ⟨rfl, rfl, rfl, Nat.le_refl _, fun _ _ _ => rfl⟩, fun l o L h1 h3 => .inr ⟨l, o, L, h1, h3, rfl, id⟩, fun _ _ _ h => h⟩

/-- A new block. -/
theorem Step.alloc (h : HRep P G B ρ st w) {o : HObj} {O : Obj} {L : Loc} (hL : L.blk = w.heap.size)
    (hO : ORel P B (fun l => if l = st.n then some L else ρ l) o L { w with heap := w.heap.push O }) :
    Step P G B ρ st w (fun l => if l = st.n then some L else ρ l) (st.new o).2 { w with heap := w.heap.push O } := by
  have le : ρ.le (fun l => if l = st.n then some L else ρ l) := fun l M hl => by
    have : l ≠ st.n := fun e => by rw [e, h.fresh _ (Nat.le_refl _)] at hl; cases hl
    simp [this, hl]
  have hblk : ∀ k, k < w.heap.size → ({ w with heap := w.heap.push O } : World).heap[k]? = w.heap[k]? := fun k hk => by
    show (w.heap.push O)[k]? = _
    rw [Array.getElem?_push, if_neg (by omega)]
  have hget : ∀ l o', (st.new o).2.h.get l = some o' → (l = st.n ∧ o' = o) ∨ (l ≠ st.n ∧ st.h.get l = some o') := fun l o' hl => by
    simp only [St.new, T.get_put] at hl
    split at hl
    · rename_i e; exact .inl ⟨e, (Option.some.inj hl).symm⟩
    · rename_i e; exact .inr ⟨e, hl⟩
  refine ⟨le, ⟨?_, ?_, ?_, ?_, ?_, ?_⟩, by simp [St.new], ⟨rfl, rfl, rfl, by simp, fun k hk _ => hblk k hk⟩, ?_, fun m hm M hM => by
    change (if m = st.n then some L else ρ m) = some M at hM
    rw [if_neg (by omega)] at hM
    exact hM⟩
  · intro l o' hl
    rcases hget l o' hl with ⟨rfl, rfl⟩ | ⟨hne, hl'⟩
    · exact ⟨L, by simp, hO⟩
    · obtain ⟨M, hM, r⟩ := h.obj l o' hl'
      exact ⟨M, by simp [hne, hM], r.of_block le (hblk _ (h.size _ _ hM))⟩
  · intro l l' o1 o2 L1 L2 hl hl' hne ho h1 h2
    change (if l = st.n then some L else ρ l) = some L1 at h1
    change (if l' = st.n then some L else ρ l') = some L2 at h2
    rcases hget l o1 hl with ⟨rfl, rfl⟩ | ⟨hn1, hl1⟩
    · simp only [if_true, Option.some.injEq] at h1
      rw [if_neg (Ne.symm hne)] at h2
      have := h.size _ _ h2
      rw [← h1]; omega
    · rw [if_neg hn1] at h1
      rcases hget l' o2 hl' with ⟨rfl, rfl⟩ | ⟨hn2, hl2⟩
      · simp only [if_true, Option.some.injEq] at h2
        have := h.size _ _ h1
        rw [← h2]; omega
      · rw [if_neg hn2] at h2
        exact h.apart l l' o1 o2 L1 L2 hl1 hl2 hne ho h1 h2
  · intro l hl
    simp only [St.new] at hl
    rw [if_neg (by omega)]
    exact h.fresh l (by omega)
  · intro l M hM
    change (if l = st.n then some L else ρ l) = some M at hM
    show M.blk < (w.heap.push O).size
    rw [Array.size_push]
    split at hM
    · rw [← Option.some.inj hM]; omega
    · have := h.size l M hM; omega
  · intro g hg
    obtain ⟨M, a, b⟩ := h.glob g hg
    exact ⟨M, le _ _ a, b⟩
  · show B ≤ (w.heap.push O).size
    rw [Array.size_push]; have := h.base; omega
  · intro l o' M hl hM
    rcases hget l o' hl with ⟨rfl, rfl⟩ | ⟨hne, hl'⟩
    · simp only [if_true, Option.some.injEq] at hM
      exact .inl (by rw [← hM]; omega)
    · simp only [if_neg hne] at hM
      exact .inr ⟨l, o', M, hl', hM, rfl, id⟩

/-- An own block turns, its label the same. -/
theorem Step.write (h : HRep P G B ρ st w) {l : Nat} {o o' : HObj} {O : Obj} {L : Loc} (hl : st.h.get l = some o) (ho : Own o = true) (hL : ρ l = some L)
    (hO : ORel P B ρ o' L { w with heap := w.heap.setIfInBounds L.blk O }) :
    Step P G B ρ st w ρ (st.set l o') { w with heap := w.heap.setIfInBounds L.blk O } := by
  have hblk : ∀ k, k ≠ L.blk → ({ w with heap := w.heap.setIfInBounds L.blk O } : World).heap[k]? = w.heap[k]? := fun k hk => by
    show (w.heap.setIfInBounds L.blk O)[k]? = _
    rw [Array.getElem?_setIfInBounds_ne (Ne.symm hk)]
  have hget : ∀ m q, (st.set l o').h.get m = some q → (m = l ∧ q = o') ∨ (m ≠ l ∧ st.h.get m = some q) := fun m q hm => by
    simp only [St.set, T.get_put] at hm
    split at hm
    · rename_i e; exact .inl ⟨e, (Option.some.inj hm).symm⟩
    · rename_i e; exact .inr ⟨e, hm⟩
  refine ⟨.refl _, ⟨?_, ?_, h.fresh, ?_, h.glob, ?_⟩, Nat.le_refl _, ⟨rfl, rfl, rfl, by simp, fun k hk hno => hblk k (hno l o L hl ho hL).symm⟩, ?_, fun _ _ _ h => h⟩
  · intro m q hm
    rcases hget m q hm with ⟨rfl, rfl⟩ | ⟨hne, hm'⟩
    · exact ⟨L, hL, hO⟩
    · obtain ⟨M, hM, r⟩ := h.obj m q hm'
      exact ⟨M, hM, r.of_block (.refl _) (hblk _ (fun e => h.apart l m o q L M hl hm' (Ne.symm hne) ho hL hM e.symm))⟩
  · intro m m' q q' M M' hm hm' hne hq h1 h2
    rcases hget m q hm with ⟨rfl, rfl⟩ | ⟨hn1, hm1⟩
    · rcases hget m' q' hm' with ⟨rfl, rfl⟩ | ⟨hn2, hm2⟩
      · exact absurd rfl hne
      · exact h.apart _ _ o q' M M' hl hm2 hne ho h1 h2
    · rcases hget m' q' hm' with ⟨rfl, rfl⟩ | ⟨hn2, hm2⟩
      · exact fun e => h.apart _ _ o q M' M hl hm1 (Ne.symm hne) ho h2 h1 e.symm
      · exact h.apart _ _ q q' M M' hm1 hm2 hne hq h1 h2
  · intro m M hM
    show M.blk < (w.heap.setIfInBounds L.blk O).size
    rw [Array.size_setIfInBounds]; exact h.size m M hM
  · show B ≤ (w.heap.setIfInBounds L.blk O).size
    rw [Array.size_setIfInBounds]; exact h.base
  · intro m q M hm hM
    rcases hget m q hm with ⟨rfl, rfl⟩ | ⟨hne, hm'⟩
    · exact .inr ⟨_, o, M, hl, hM, rfl, fun _ => ho⟩
    · exact .inr ⟨m, q, M, hm', hM, rfl, id⟩
end
end Go.Vex
