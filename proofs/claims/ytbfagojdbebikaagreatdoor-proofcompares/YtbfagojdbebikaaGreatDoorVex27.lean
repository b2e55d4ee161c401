/- VEX, part 27: rows of whole numbers, temporaries by their numbers. Generic in the program. -/
import Derived.Test.YtbfagojdbebikaaGreatDoorVex26
namespace Go.Vex
open Go Go.RowKit

theorem ev_tmp (G : Nat) (ts : T V) (t : Nat) : ev G ts (.tmp t) = some (cel ts t) := rfl
theorem ev_int (G : Nat) (ts : T V) (k : IntKind) (n : Int) : ev G ts (.const (.int k n)) = some (.int k n) := rfl
theorem ev_bool (G : Nat) (ts : T V) (b : Bool) : ev G ts (.const (.bool b)) = some (.bool b) := rfl
theorem ev_str (G : Nat) (ts : T V) (s : ByteArray) : ev G ts (.const (.string s)) = some (.str (s.data.toList.map UInt8.toNat)) := rfl
theorem ev_func (G : Nat) (ts : T V) (f : FuncId) : ev G ts (.func f) = some (.func f [] []) := rfl
theorem cel_eq {ts : T V} {N d : Nat} {v : V} (h : Nat.blt d N = true) : cel (putD ts N (some d) v) d = v := by
  rw [cel_put, if_pos ⟨rfl, by rw [Nat.blt_eq] at h; exact h⟩]
theorem cel_ne {ts : T V} {N d t : Nat} {v : V} (h : Nat.beq d t = false) : cel (putD ts N (some d) v) t = cel ts t := by
  rw [cel_put, if_neg]
  rintro ⟨h1, _⟩
  rw [Option.some.inj h1, Nat.beq_refl] at h
  cases h
theorem cel_args (vs : List V) (t : Nat) : cel (argsT .leaf 0 vs) t = (vs[t]?).getD undefV := by
  unfold cel
  rw [argsT_get, T.get_leaf]
  by_cases h : t < vs.length
  · rw [if_pos ⟨Nat.zero_le _, by omega⟩, Nat.sub_zero]
  · rw [if_neg (by omega), List.getElem?_eq_none (by omega)]

/-- A slice of whole numbers: what it holds. -/
def Row (k : IntKind) (st : St) (v : V) (l : List Int) : Prop :=
  (v = .nslice ∧ l = []) ∨ ∃ lb off c cs t kd, v = .slice lb off l.length c ∧ lb < st.n ∧ st.h.get lb = some (.cells cs t kd) ∧ ∀ (i : Nat) (x : Int), l[i]? = some x → cs[off + i]? = some (.int k x)

/-- What was there is there as it was. -/
structure Keeps (st st' : St) : Prop where
  n : st.n ≤ st'.n
  h : ∀ l, l < st.n → st'.h.get l = st.h.get l
theorem Keeps.refl (st : St) : Keeps st st := ⟨Nat.le_refl _, fun _ _ => rfl⟩
theorem Keeps.trans {a b c : St} (h : Keeps a b) (k : Keeps b c) : Keeps a c := ⟨Nat.le_trans h.n k.n, fun l hl => (k.h l (Nat.lt_of_lt_of_le hl h.n)).trans (h.h l hl)⟩
theorem Keeps.bump (st : St) (k : Nat) : Keeps st ⟨st.h, st.n + k⟩ := ⟨Nat.le_add_right _ _, fun _ _ => rfl⟩
theorem Row.keeps {k : IntKind} {st st' : St} {v : V} {l : List Int} (h : Row k st v l) (ks : Keeps st st') : Row k st' v l := by
  rcases h with h | ⟨lb, off, c, cs, t, kd, h1, h2, h3, h4⟩
  · exact .inl h
  · exact .inr ⟨lb, off, c, cs, t, kd, h1, Nat.lt_of_lt_of_le h2 ks.n, (ks.h lb h2).trans h3, h4⟩

section
variable {P : Program} {X : FuncId → Option Ext} {G : Nat}
theorem Row.len {k : IntKind} {st : St} {v : V} {l : List Int} (h : Row k st v l) {t e : TypeId} (ht : P.underlying t = some (.slice e)) : lenV P t v st = some l.length := by
  rcases h with ⟨rfl, rfl⟩ | ⟨lb, off, c, cs, t', kd, rfl, _⟩
  · simp [lenV, ht]
  · simp [lenV, ht]

theorem Row.len' {k : IntKind} {st : St} {v : V} {l : List Int} (h : Row k st v l) {t e : TypeId} (ht : P.underlying t = some (.slice e)) (n : Nat) : lenV P t v ⟨st.h, n⟩ = some l.length := by
  rcases h with ⟨rfl, rfl⟩ | ⟨lb, off, c, cs, t', kd, rfl, _⟩
  · simp [lenV, ht]
  · simp [lenV, ht]

/-- An element's address, and what is read there. -/
theorem Row.elem {k : IntKind} {st : St} {v : V} {l : List Int} (h : Row k st v l) {e : TypeId} (ha : isAggV P e = some false) {i : Nat} {x : Int} (hi : l[i]? = some x) :
    ∃ lb off n c, v = .slice lb off n c ∧ i < n ∧ lb < st.n ∧ loadV P e lb (off + i * 1) st = some (.int k x) := by
  rcases h with ⟨rfl, rfl⟩ | ⟨lb, off, c, cs, t', kd, rfl, h1, h2, h3⟩
  · simp at hi
  · refine ⟨lb, off, l.length, c, rfl, (List.getElem?_eq_some_iff.1 hi).1, h1, ?_⟩
    unfold loadV
    rw [h2]
    simp only [partV, ha, Nat.mul_one]
    exact h3 i x hi

variable {all : Array Oper} {N : Nat} {l : List Oper} {ts : T V} {r : T V × St}
theorem goes_assoc {a b c : Code} {fr : Fr} {st : St} {o : Out} (h : Goes P X G (.code (.seq a (.seq b c)) fr) st o) : Goes P X G (.code (.seq (.seq a b) c) fr) st o := by
  obtain ⟨n, hn⟩ := h
  cases n with
  | zero => cases hn
  | succ n =>
    refine ⟨n + 2, ?_⟩
    change body P X G (run P X G n) _ _ = _ at hn
    change body P X G (run P X G (n + 1)) _ _ = _
    have hab : run P X G (n + 1) (.code (.seq a b) fr) st = body P X G (run P X G n) (.code (.seq a b) fr) st := rfl
    simp only [body] at hn ⊢
    rw [hab]
    simp only [body]
    split at hn
    · rename_i fr1 st1 e1
      cases n with
      | zero => cases e1
      | succ n =>
        change body P X G (run P X G n) (.code (.seq b c) fr1) st1 = _ at hn
        simp only [body] at hn
        split at hn
        · rename_i fr2 st2 e2
          rw [run_succ n _ _ _ e2]
          exact run_mono (by omega) _ _ _ hn
        · rename_i hno
          rw [run_succ n _ _ _ hn]
          split
          · rename_i fr2 st2 e2
            rw [e2] at hn
            exact absurd hn (hno _ _)
          · rfl
    · rename_i hno
      rw [hn]
      split
      · rename_i fr1 st1 e1
        rw [e1] at hn
        exact absurd hn (hno _ _)
      · rfl

theorem ops_of {st : St} (h : ∀ self, opsV P X G self all N l ts st = some r) : OpsGo P X G all N l ts st r := ⟨0, h _⟩
end
end Go.Vex
