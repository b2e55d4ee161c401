/- VEX, part 17: a region that draws its order: what the check of its text shows. Generic in the program. -/
import Derived.Test.YtbfagojdbebikaaGreatDoorVex16
namespace Go.Vex
open Go Go.RowKit

/-- One operation of a region waits for another, at first or second hand. -/
inductive Anc (ops : Array Oper) : Nat → Nat → Prop
  | edge {i j : Nat} {o : Oper} {e : Edge} : ops[j]? = some o → e ∈ o.after.toList → Region.binds .any e = true → e.on = i → Anc ops i j
  | trans {i j k : Nat} : Anc ops i j → Anc ops j k → Anc ops i k

def Conf (ops : Array Oper) (oi oj : Oper) : Prop :=
  (∃ t, oi.dst = some t ∧ (t ∈ oj.looksAt ops ∨ oj.dst = some t)) ∨ (∃ t, oj.dst = some t ∧ t ∈ oi.looksAt ops)

structure DOK (P : Program) (ops : Array Oper) (ms : T Nat) : Prop where
  conf : ∀ i j oi oj, i < j → ops[i]? = some oi → ops[j]? = some oj → Conf ops oi oj → Anc ops i j
  hard : ∀ i j oi oj, i < j → ops[i]? = some oi → ops[j]? = some oj → dkind P oj.op = .chain → dkind P oi.op ≠ .quiet → Anc ops i j
  dep : ∀ j o e, ops[j]? = some o → e ∈ o.after.toList → Region.binds .any e = true → e.on < j
  masks : ∀ i j, waits ms i j = true → Anc ops i j

theorem memN_mem : ∀ {t : Nat} {l : List Nat}, memN t l = true ↔ t ∈ l
  | t, [] => by simp [memN]
  | t, u :: us => by
    simp only [memN, Bool.or_eq_true, List.mem_cons, Nat.beq_eq]
    rw [memN_mem]

section
variable {P : Program} {ops : Array Oper}

theorem ancOf_spec {ms : T Nat} {j : Nat} {o : Oper} (ho : ops[j]? = some o) (hms : ∀ i k, waits ms i k = true → Anc ops i k) : ∀ (es : List Edge) (m : Nat), (∀ e ∈ es, e ∈ o.after.toList) → ancOf ms j es = some m →
    (∀ i, Nat.testBit m i = true → Anc ops i j) ∧ ∀ e ∈ es, Region.binds .any e = true → e.on < j
  | [], m, _, h => by
    simp only [ancOf, Option.some.injEq] at h
    subst h
    exact ⟨fun i hi => by simp at hi, fun e he => by cases he⟩
  | e :: es, m, hsub, h => by
    have hs' : ∀ e' ∈ es, e' ∈ o.after.toList := fun e' he' => hsub e' (List.mem_cons_of_mem _ he')
    simp only [ancOf] at h
    cases hb : Region.binds .any e with
    | false =>
      rw [hb] at h
      obtain ⟨a, b⟩ := ancOf_spec ho hms es m hs' h
      refine ⟨a, fun e' he' hb' => ?_⟩
      rcases List.mem_cons.1 he' with rfl | he'
      · rw [hb] at hb'; cases hb'
      · exact b e' he' hb'
    | true =>
      rw [hb] at h
      simp only at h
      split at h
      · rename_i k hlt hk
        obtain ⟨r, hr, rfl⟩ := map2 h
        obtain ⟨a, b⟩ := ancOf_spec ho hms es r hs' hr
        have hedge : Anc ops e.on j := .edge ho (hsub e List.mem_cons_self) hb rfl
        refine ⟨fun i hi => ?_, fun e' he' hb' => ?_⟩
        · have hi : Nat.testBit (((1 <<< e.on) ||| k) ||| r) i = true := hi
          simp only [Nat.testBit_or, Nat.one_shiftLeft, Nat.testBit_two_pow, Bool.or_eq_true, decide_eq_true_eq] at hi
          rcases hi with (rfl | hi) | hi
          · exact hedge
          · exact .trans (hms i e.on (by unfold waits; rw [hk]; exact hi)) hedge
          · exact a i hi
        · rcases List.mem_cons.1 he' with rfl | he'
          · rw [Nat.blt_eq] at hlt; exact hlt
          · exact b e' he' hb'
      · cases h

theorem meets_conf {i : Nat} {oi oj : Oper} (h : Conf ops oi oj ∨ (dkind P oj.op = .chain ∧ dkind P oi.op ≠ .quiet)) :
    meets ⟨i, oi.looksAt ops, oi.dst, !(decide (dkind P oi.op = .quiet))⟩ (oj.looksAt ops) oj.dst (decide (dkind P oj.op = .chain)) = true := by
  unfold meets
  rcases h with (⟨t, h1, h2⟩ | ⟨t, h1, h2⟩) | ⟨h1, h2⟩
  · rcases h2 with h2 | h2
    · simp [h1, memN_mem.2 h2]
    · simp [h1, h2]
  · simp [h1, memN_mem.2 h2]
  · simp [h1, h2]

theorem clearV_spec {anc : Nat} {looks : List Tmp} {dst : Option Tmp} {ch : Bool} : ∀ {ps : List DRec}, clearV anc looks dst ch ps = true → ∀ p ∈ ps, meets p looks dst ch = true → Nat.testBit anc p.i = true
  | [], _, p, hp, _ => by cases hp
  | q :: ps, h, p, hp, hm => by
    simp only [clearV, Bool.and_eq_true] at h
    rcases List.mem_cons.1 hp with rfl | hp
    · have := h.1
      rw [hm] at this
      exact this
    · exact clearV_spec h.2 p hp hm

theorem dstat_spec : ∀ (l : List Oper) (j : Nat) (ms0 : T Nat) (ps : List DRec) (ms : T Nat), (∀ k, l[k]? = ops[j + k]?) → (∀ i k, waits ms0 i k = true → Anc ops i k) →
    (∀ i oi, i < j → ops[i]? = some oi → (⟨i, oi.looksAt ops, oi.dst, !(decide (dkind P oi.op = .quiet))⟩ : DRec) ∈ ps) →
    (∀ i k oi ok, i < k → k < j → ops[i]? = some oi → ops[k]? = some ok → (Conf ops oi ok ∨ (dkind P ok.op = .chain ∧ dkind P oi.op ≠ .quiet)) → Anc ops i k) →
    (∀ k o e, k < j → ops[k]? = some o → e ∈ o.after.toList → Region.binds .any e = true → e.on < k) →
    dstat P ops j l ms0 ps = some ms → DOK P ops ms
  | [], j, ms0, ps, ms, hl, hm, hp, hc, hd, h => by
    simp only [dstat, Option.some.injEq] at h
    subst h
    have hlen : ∀ k o, ops[k]? = some o → k < j := fun k o hk => by
      rcases Nat.lt_or_ge k j with h | h
      · exact h
      · have := hl (k - j)
        rw [show j + (k - j) = k by omega, hk] at this
        cases this
    exact ⟨fun i k oi ok hik hi hk hq => hc i k oi ok hik (hlen k ok hk) hi hk (.inl hq), fun i k oi ok hik hi hk h1 h2 => hc i k oi ok hik (hlen k ok hk) hi hk (.inr ⟨h1, h2⟩),
      fun k o e hk => hd k o e (hlen k o hk) hk, hm⟩
  | o :: l, j, ms0, ps, ms, hl, hm, hp, hc, hd, h => by
    have h0 : ops[j]? = some o := by rw [← Nat.add_zero j, ← hl 0]; rfl
    simp only [dstat] at h
    obtain ⟨anc, ha, h⟩ := bind2 h
    obtain ⟨a1, a2⟩ := ancOf_spec h0 hm o.after.toList anc (fun _ h => h) ha
    split at h
    · rename_i hclear
      have hcl := clearV_spec hclear
      refine dstat_spec l (j + 1) _ _ ms (fun k => by rw [show j + 1 + k = j + (k + 1) by omega, ← hl (k + 1)]; rfl) ?_ ?_ ?_ ?_ h
      · intro i k hk
        unfold waits at hk
        rw [T.get_put] at hk
        split at hk
        · rename_i m hkm
          split at hkm
          · rename_i e
            subst e
            obtain rfl := Option.some.inj hkm
            exact a1 i hk
          · exact hm i k (by unfold waits; rw [hkm]; exact hk)
        · cases hk
      · intro i oi hi hoi
        by_cases hij : i = j
        · subst hij
          obtain rfl := Option.some.inj (h0.symm.trans hoi)
          exact List.mem_cons_self
        · exact List.mem_cons_of_mem _ (hp i oi (by omega) hoi)
      · intro i k oi ok hik hk hoi hok hq
        by_cases hkj : k = j
        · subst hkj
          obtain rfl := Option.some.inj (h0.symm.trans hok)
          exact a1 i (hcl _ (hp i oi hik hoi) (meets_conf hq))
        · exact hc i k oi ok hik (by omega) hoi hok hq
      · intro k o' e hk hok he hb
        by_cases hkj : k = j
        · subst hkj
          obtain rfl := Option.some.inj (h0.symm.trans hok)
          exact a2 e he hb
        · exact hd k o' e (by omega) hok he hb
    · cases h

theorem dstat_ok {ms : T Nat} (h : dstat P ops 0 ops.toList .leaf [] = some ms) : DOK P ops ms :=
  dstat_spec ops.toList 0 .leaf [] ms (fun k => by rw [Nat.zero_add, Array.getElem?_toList]) (fun i k hk => by unfold waits at hk; rw [T.get_leaf] at hk; cases hk)
    (fun i oi hi => by omega) (fun i k oi ok hik hk => by omega) (fun k o e hk => by omega) h
end

/-! ### Equal values -/
mutual
theorem V.same_eq : ∀ (a b : V), V.same a b = true → a = b
  | .int k n, b, h => by cases b <;> simp_all [V.same]
  | .bool x, b, h => by cases b <;> simp_all [V.same]
  | .str s, b, h => by cases b <;> simp_all [V.same]
  | .ptr l o, b, h => by cases b <;> simp_all [V.same]
  | .nptr, b, h => by cases b <;> simp_all [V.same]
  | .slice l o n c, b, h => by cases b <;> simp_all [V.same]
  | .nslice, b, h => by cases b <;> simp_all [V.same]
  | .map l, b, h => by cases b <;> simp_all [V.same]
  | .nmap, b, h => by cases b <;> simp_all [V.same]
  | .func f p q, b, h => by
    cases b <;> simp only [V.same, Bool.false_eq_true] at h
    simp only [Bool.and_eq_true, Nat.beq_eq] at h
    rw [h.1.1, sames_eq p _ h.1.2, sames_eq q _ h.2]
  | .yield l, b, h => by cases b <;> simp_all [V.same]
  | .nfunc, b, h => by cases b <;> simp_all [V.same]
  | .iface t v, b, h => by
    cases b <;> simp only [V.same, Bool.false_eq_true] at h
    simp only [Bool.and_eq_true, Nat.beq_eq] at h
    rw [h.1, V.same_eq v _ h.2]
  | .niface, b, h => by cases b <;> simp_all [V.same]
  | .agg cs, b, h => by
    cases b <;> simp only [V.same, Bool.false_eq_true] at h
    rw [sames_eq cs _ h]
  | .tup cs, b, h => by
    cases b <;> simp only [V.same, Bool.false_eq_true] at h
    rw [sames_eq cs _ h]
theorem sames_eq : ∀ (a b : List V), sames a b = true → a = b
  | [], b, h => by cases b <;> simp_all [sames]
  | x :: xs, b, h => by
    cases b <;> simp only [sames, Bool.false_eq_true] at h
    simp only [Bool.and_eq_true] at h
    rw [V.same_eq x _ h.1, sames_eq xs _ h.2]
end
end Go.Vex
