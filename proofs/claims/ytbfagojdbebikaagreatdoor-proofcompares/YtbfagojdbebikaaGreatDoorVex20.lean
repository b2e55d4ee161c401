/- VEX, part 20: blocks made ahead of the text's order; temporaries of a set of operations. Generic in the program. -/
import Derived.Test.YtbfagojdbebikaaGreatDoorVex19
namespace Go.Vex
open Go Go.RowKit

section
variable {P : Program} {G B : Nat} {ρ0 ρ ρ' : Rho} {st0 st st' : St} {w0 w w' : World}

/-- Labels are set aside. -/
theorem Step.bump (h : HRep P G B ρ st w) (k : Nat) : Step P G B ρ st w ρ ⟨st.h, st.n + k⟩ w :=
  ⟨.refl _, ⟨h.obj, h.apart, fun l hl => h.fresh l (Nat.le_trans (Nat.le_add_right _ _) hl), h.size, h.glob, h.base⟩, Nat.le_add_right _ _, ⟨rfl, rfl, rfl, Nat.le_refl _, fun _ _ _ => rfl⟩,
    fun l o L h1 h3 => .inr ⟨l, o, L, h1, h3, rfl, id⟩, fun _ _ _ h => h⟩

/-- A block made ahead: it stands in the world, it has its label, the label-heap does not have it. -/
structure Ahead (P : Program) (B : Nat) (ρ : Rho) (st : St) (w0 w : World) (l : Nat) (ob : HObj) (M : Loc) : Prop where
  lab : ρ l = some M
  new : w0.heap.size ≤ M.blk
  lt : M.blk < w.heap.size
  rel : ORel P B ρ ob M w
  far : ∀ l' o' L', st.h.get l' = some o' → ρ l' = some L' → L'.blk ≠ M.blk

theorem Ahead.step {l : Nat} {ob : HObj} {M : Loc} (h : Ahead P B ρ st w0 w l ob M) (s : Step P G B ρ st w ρ' st' w') : Ahead P B ρ' st' w0 w' l ob M := by
  refine ⟨s.le _ _ h.lab, h.new, Nat.lt_of_lt_of_le h.lt s.kept.size, ?_, ?_⟩
  · exact h.rel.of_block s.le (s.kept.block _ h.lt fun l' o' L' a _ b => h.far l' o' L' a b)
  · intro l' o' L' a b
    rcases s.own l' o' L' a b with c | ⟨l1, o1, L1, c, d, e, _⟩
    · have := h.lt; omega
    · rw [← e]; exact h.far l1 o1 L1 c d

/-- A block made ahead comes into the label-heap. -/
theorem Step.lay (s : Step P G B ρ0 st0 w0 ρ st w) {l : Nat} {ob : HObj} {M : Loc} (h : Ahead P B ρ st w0 w l ob M) : Step P G B ρ0 st0 w0 ρ (st.set l ob) w := by
  have hget : ∀ m q, (st.set l ob).h.get m = some q → (m = l ∧ q = ob) ∨ (m ≠ l ∧ st.h.get m = some q) := fun m q hm => by
    simp only [St.set, T.get_put] at hm
    split at hm
    · rename_i e; exact .inl ⟨e, (Option.some.inj hm).symm⟩
    · rename_i e; exact .inr ⟨e, hm⟩
  refine ⟨s.le, ⟨?_, ?_, s.rep.fresh, s.rep.size, s.rep.glob, s.rep.base⟩, s.n, s.kept, ?_, s.old⟩
  · intro m q hm
    rcases hget m q hm with ⟨rfl, rfl⟩ | ⟨_, hm'⟩
    · exact ⟨M, h.lab, h.rel⟩
    · exact s.rep.obj m q hm'
  · intro m m' q q' L L' hm hm' hne ho h1 h2
    rcases hget m q hm with ⟨rfl, rfl⟩ | ⟨hn1, hm1⟩
    · rcases hget m' q' hm' with ⟨rfl, rfl⟩ | ⟨hn2, hm2⟩
      · exact absurd rfl hne
      · obtain rfl := Option.some.inj (h.lab.symm.trans h1)
        exact (h.far m' q' L' hm2 h2).symm
    · rcases hget m' q' hm' with ⟨rfl, rfl⟩ | ⟨hn2, hm2⟩
      · obtain rfl := Option.some.inj (h.lab.symm.trans h2)
        exact h.far m q L hm1 h1
      · exact s.rep.apart m m' q q' L L' hm1 hm2 hne ho h1 h2
  · intro m q L hm hL
    rcases hget m q hm with ⟨rfl, rfl⟩ | ⟨hn1, hm1⟩
    · obtain rfl := Option.some.inj (h.lab.symm.trans hL)
      exact .inl h.new
    · exact s.own m q L hm1 hL

theorem Step.layAll : ∀ (ps : List (Nat × HObj)) {st : St}, Step P G B ρ0 st0 w0 ρ st w → (∀ q ∈ ps, ∃ M, Ahead P B ρ st w0 w q.1 q.2 M) →
    ps.Pairwise (fun q q' => ∀ M M', ρ q.1 = some M → ρ q'.1 = some M' → M.blk ≠ M'.blk) →
    Step P G B ρ0 st0 w0 ρ (layAll st ps) w ∧ ∀ l o, (Vex.layAll st ps).h.get l = some o → st.h.get l = some o ∨ ∃ q ∈ ps, l = q.1
  | [], st, s, _, _ => ⟨s, fun l o h => .inl h⟩
  | q :: ps, st, s, ha, hp => by
    obtain ⟨M, hM⟩ := ha q List.mem_cons_self
    have hp1 := (List.pairwise_cons.1 hp).1
    have hget : ∀ m o, (st.set q.1 q.2).h.get m = some o → m = q.1 ∨ st.h.get m = some o := fun m o hm => by
      simp only [St.set, T.get_put] at hm
      split at hm
      · rename_i e; exact .inl e
      · exact .inr hm
    obtain ⟨a, b⟩ := Step.layAll ps (s.lay hM) (fun q' hq' => by
      obtain ⟨M', hM'⟩ := ha q' (List.mem_cons_of_mem _ hq')
      refine ⟨M', hM'.lab, hM'.new, hM'.lt, hM'.rel, fun l' o' L' h1 h2 => ?_⟩
      rcases hget l' o' h1 with rfl | h1
      · exact hp1 q' hq' L' M' h2 hM'.lab
      · exact hM'.far l' o' L' h1 h2) (List.pairwise_cons.1 hp).2
    refine ⟨a, fun l o h => ?_⟩
    rcases b l o h with h | ⟨q', h1, h2⟩
    · rcases hget l o h with rfl | h
      · exact .inr ⟨q, List.mem_cons_self, rfl⟩
      · exact .inl h
    · exact .inr ⟨q', List.mem_cons_of_mem _ h1, h2⟩

/-- A block is made ahead. -/
theorem Step.allocAt (s : Step P G B ρ0 st0 w0 ρ st w) {l : Nat} {M : Loc} {O : Obj} (hl : ρ l = none) (h0 : st0.n ≤ l) (h1 : l < st.n) (hM : M.blk = w.heap.size) :
    Step P G B ρ0 st0 w0 (fun m => if m = l then some M else ρ m) st { w with heap := w.heap.push O } := by
  have le : ρ.le (fun m => if m = l then some M else ρ m) := fun m L hm => by
    have : m ≠ l := fun e => by rw [e, hl] at hm; cases hm
    simp [this, hm]
  have hblk : ∀ k, k < w.heap.size → ({ w with heap := w.heap.push O } : World).heap[k]? = w.heap[k]? := fun k hk => by
    show (w.heap.push O)[k]? = _
    rw [Array.getElem?_push, if_neg (by omega)]
  have hne : ∀ m o L, st.h.get m = some o → (fun m => if m = l then some M else ρ m) m = some L → ρ m = some L := fun m o L hm hL => by
    obtain ⟨L', hL', _⟩ := s.rep.obj m o hm
    have : m ≠ l := fun e => by rw [e, hl] at hL'; cases hL'
    simpa [this] using hL
  refine ⟨s.le.trans le, ⟨?_, ?_, ?_, ?_, ?_, ?_⟩, s.n, ⟨s.kept.os, s.kept.tape, s.kept.output, ?_, ?_⟩, ?_, ?_⟩
  · intro m o hm
    obtain ⟨L, hL, r⟩ := s.rep.obj m o hm
    exact ⟨L, le _ _ hL, r.of_block le (hblk _ (s.rep.size _ _ hL))⟩
  · intro m m' q q' L L' hm hm' hn ho e1 e2
    exact s.rep.apart m m' q q' L L' hm hm' hn ho (hne m q L hm e1) (hne m' q' L' hm' e2)
  · intro m hm
    show (if m = l then some M else ρ m) = none
    rw [if_neg (by omega)]
    exact s.rep.fresh m hm
  · intro m L hL
    change (if m = l then some M else ρ m) = some L at hL
    show L.blk < (w.heap.push O).size
    rw [Array.size_push]
    split at hL
    · rw [← Option.some.inj hL]; omega
    · have := s.rep.size m L hL; omega
  · intro g hg
    obtain ⟨L, a, b⟩ := s.rep.glob g hg
    exact ⟨L, le _ _ a, b⟩
  · show B ≤ (w.heap.push O).size
    rw [Array.size_push]; have := s.rep.base; omega
  · show w0.heap.size ≤ (w.heap.push O).size
    rw [Array.size_push]; have := s.kept.size; omega
  · intro k hk hno
    rw [hblk k (Nat.lt_of_lt_of_le hk s.kept.size)]
    exact s.kept.block k hk hno
  · intro m o L hm hL
    exact s.own m o L hm (hne m o L hm hL)
  · intro m hm L hL
    change (if m = l then some M else ρ m) = some L at hL
    rw [if_neg (by omega)] at hL
    exact s.old m hm L hL
end

/-! ### The temporaries of a set of operations -/
def cel (ts : T V) (t : Nat) : V := (ts.get t).getD undefV
theorem cel_put (ts : T V) (N : Nat) (d : Option Tmp) (v : V) (t : Nat) : cel (putD ts N d v) t = if d = some t ∧ t < N then v else cel ts t := by
  cases d with
  | none => simp [putD]
  | some u =>
    simp only [putD]
    cases hb : Nat.ble N u with
    | true =>
      have := Nat.le_of_ble_eq_true hb
      simp only
      rw [if_neg]
      rintro ⟨h1, h2⟩
      obtain rfl := Option.some.inj h1
      omega
    | false =>
      have hlt : u < N := by
        rcases Nat.lt_or_ge u N with h | h
        · exact h
        · rw [Nat.ble_eq_true_of_le h] at hb; cases hb
      simp only [cel, T.get_put]
      by_cases htu : t = u
      · subst htu; simp [hlt]
      · rw [if_neg htu, if_neg]
        rintro ⟨h1, _⟩
        exact htu (Option.some.inj h1).symm

def tsOf (ops : Array Oper) (N : Nat) (val : Nat → V) (ts0 : T V) (S : Nat → Bool) : Nat → T V
  | 0 => ts0
  | j + 1 => match S j, ops[j]? with
    | true, some o => putD (tsOf ops N val ts0 S j) N o.dst (val j)
    | _, _ => tsOf ops N val ts0 S j

section
variable {ops : Array Oper} {N : Nat} {val : Nat → V} {ts0 : T V} {S S' : Nat → Bool} {t : Nat}

theorem tsOf_same : ∀ (k : Nat), (∀ j o, j < k → ops[j]? = some o → o.dst = some t → t < N → S j = S' j) → cel (tsOf ops N val ts0 S k) t = cel (tsOf ops N val ts0 S' k) t
  | 0, _ => rfl
  | k + 1, h => by
    have ih := tsOf_same k fun j o hj => h j o (by omega)
    simp only [tsOf]
    cases ho : ops[k]? with
    | none => cases S k <;> cases S' k <;> exact ih
    | some o =>
      by_cases hd : o.dst = some t ∧ t < N
      · rw [h k o (by omega) ho hd.1 hd.2]
        cases S' k with
        | false => exact ih
        | true => simp only [cel_put, if_pos hd]
      · cases S k <;> cases S' k <;> simp only [cel_put, if_neg hd] <;> exact ih

theorem tsOf_stay {i : Nat} : ∀ (k : Nat), (∀ j o, i ≤ j → j < i + k → ops[j]? = some o → o.dst = some t → t < N → S j = false) → cel (tsOf ops N val ts0 S (i + k)) t = cel (tsOf ops N val ts0 S i) t
  | 0, _ => rfl
  | k + 1, h => by
    have ih := tsOf_stay k fun j o h1 h2 => h j o h1 (by omega)
    rw [← Nat.add_assoc]
    simp only [tsOf]
    cases ho : ops[i + k]? with
    | none => cases S (i + k) <;> exact ih
    | some o =>
      by_cases hd : o.dst = some t ∧ t < N
      · rw [h (i + k) o (by omega) (by omega) ho hd.1 hd.2]
        exact ih
      · cases S (i + k) <;> simp only [cel_put, if_neg hd] <;> exact ih

theorem TRel.congr {ρ : Rho} {ts ts' : T V} {tmps : Array Value} (h : TRel ρ ts N tmps) (he : ∀ t, cel ts t = cel ts' t) : TRel ρ ts' N tmps :=
  ⟨h.1, fun t => by have := h.2 t; rw [show (ts.get t).getD undefV = (ts'.get t).getD undefV from he t] at this; exact this⟩
end
end Go.Vex
