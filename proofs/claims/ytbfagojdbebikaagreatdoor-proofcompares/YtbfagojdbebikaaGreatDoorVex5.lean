/- VEX, part 5: operators, conversions, slices, maps: the evaluator's are the model's. Generic in the program. -/
import Derived.Test.YtbfagojdbebikaaGreatDoorVex4
import Derived.Laws.StructEq
namespace Go.Vex
open Go Go.RowKit

section
variable {P : Program} {G B : Nat} {ρ : Rho} {st : St} {w : World}

theorem map_toNat_inj : ∀ {a b : List UInt8}, a.map UInt8.toNat = b.map UInt8.toNat → a = b
  | [], [], _ => rfl
  | [], _ :: _, h => by simp at h
  | _ :: _, [], h => by simp at h
  | x :: a, y :: b, h => by
    simp only [List.map_cons, List.cons.injEq] at h
    rw [UInt8.toNat_inj.1 h.1, map_toNat_inj h.2]
theorem beq_map (a b : List UInt8) : (a == b) = (a.map UInt8.toNat == b.map UInt8.toNat) := by
  rw [Bool.eq_iff_iff, beq_iff_eq, beq_iff_eq]
  exact ⟨fun h => by rw [h], map_toNat_inj⟩
theorem less_map : ∀ (a b : List UInt8), Op.bytesLess a b = binV.lessL (a.map UInt8.toNat) (b.map UInt8.toNat)
  | a, [] => by cases a <;> simp [Op.bytesLess, binV.lessL]
  | [], b :: y => by simp [Op.bytesLess, binV.lessL]
  | a :: x, b :: y => by
    have h1 : decide (a < b) = Nat.blt a.toNat b.toNat := by
      rw [Bool.eq_iff_iff, decide_eq_true_iff, Nat.blt_eq]; exact UInt8.lt_iff_toNat_lt
    have h2 : (a == b) = Nat.beq a.toNat b.toNat := by
      rw [Bool.eq_iff_iff, beq_iff_eq, Nat.beq_eq]; exact UInt8.toNat_inj.symm
    simp only [Op.bytesLess, List.map_cons, binV.lessL, less_map x y, h1, h2]

theorem eqPrim_ok {d : TypeDesc} {t : TypeId} {a b : V} {x y : Value} {r : Bool} (ht : P.underlying t = some d) (h : eqPrim d a b = some r) (hx : VRel ρ a x) (hy : VRel ρ b y) (n : Nat) :
    (Op.equalIn (n + 1) t x y).run P w = .ok r w := by
  unfold eqPrim at h
  split at h
  · cases hx; cases hy; simp only [Option.some.injEq] at h; subst h
    exact run_equalIn_bool' w n t _ _ ht
  · cases hx; cases hy
    split at h
    · rename_i hk; subst hk; simp only [Option.some.injEq] at h; subst h
      exact run_equalIn_int w n t _ _ _ _ ht
    · cases h
  · obtain ⟨s, rfl, hs⟩ := hx
    obtain ⟨u, rfl, hu⟩ := hy
    simp only [Option.some.injEq] at h
    subst h
    rw [run_equalIn_string w n t _ _ ht, ByteArray.toList_eq, ByteArray.toList_eq, beq_map, hs, hu]
  · cases h

theorem prim_isAgg {d : TypeDesc} {t : TypeId} {a b : V} {r : Bool} (ht : P.underlying t = some d) (h : eqPrim d a b = some r) : isAggV P t = some false := by
  unfold eqPrim at h
  unfold isAggV
  split at h <;> simp [ht] at h ⊢

theorem eqFields_ok {xs ys : List V} {xv yv : List Value} (hx : VRels ρ xs xv) (hy : VRels ρ ys yv) (n : Nat) : ∀ {fs : List Field} {r : Bool}, eqFields P xs ys fs = some r →
    (Op.eqFields (n + 1) xv.toArray yv.toArray fs).run P w = .ok r w
  | [], r, h => by simp only [eqFields, Option.some.injEq] at h; subst h; simp [Op.eqFields]
  | f :: fs, r, h => by
    simp only [eqFields] at h
    split at h
    · cases h
    · rename_i hn
      cases ht : P.underlying f.type with
      | none => simp [ht] at h
      | some d =>
        cases hxa : xs[f.offset]? with
        | none => simp [ht, hxa] at h
        | some a =>
          cases hya : ys[f.offset]? with
          | none => simp [ht, hxa, hya] at h
          | some b =>
            simp only [ht, hxa, hya] at h
            cases he : eqPrim d a b with
            | none => simp [he] at h
            | some q =>
              simp only [he, Option.bind_some] at h
              have hag := prim_isAgg ht he
              obtain ⟨x, hx1, hx2⟩ := hx.get _ _ hxa
              obtain ⟨y, hy1, hy2⟩ := hy.get _ _ hya
              have p1 : (part f.type xv.toArray f.offset).run P w = .ok x w := by simp [part, run_isAgg hag, hx1]
              have p2 : (part f.type yv.toArray f.offset).run P w = .ok y w := by simp [part, run_isAgg hag, hy1]
              have p3 := eqPrim_ok (w := w) ht he hx2 hy2 n
              simp only [Op.eqFields, ne_eq, hn, not_false_eq_true, if_true, Sem.run_bind, p1, p2, p3, Result.andThen_ok]
              cases q with
              | true =>
                simp only at h
                simp only [Bool.not_true, Bool.false_eq_true, if_false]
                exact eqFields_ok hx hy n h
              | false =>
                simp only at h
                cases hf : eqFields P xs ys fs with
                | none => simp [hf] at h
                | some u => simp [hf] at h; subst h; simp

section
variable (d : Nat) (t e k : TypeId)
theorem eqi_pn {b : Option Addr} (ht : P.underlying t = some (.pointer e)) : (Op.equalIn (d + 1) t (.pointer none) (.pointer b)).run P w = .ok b.isNone w := by
  rw [Op.equalIn]; simp only [Sem.run_bind, run_und ht, Result.andThen_ok, Sem.run_pure]
theorem eqi_sp {a : Addr} (ht : P.underlying t = some (.pointer e)) : (Op.equalIn (d + 1) t (.pointer (some a)) (.pointer none)).run P w = .ok false w := by
  rw [Op.equalIn]; simp only [Sem.run_bind, run_und ht, Result.andThen_ok, Sem.run_pure]
theorem eqi_pp {a b : Addr} {s : Nat} (ht : P.underlying t = some (.pointer e)) (hs : sizeV P e = some (s + 1)) (hb : a.block = b.block) : (Op.equalIn (d + 1) t (.pointer (some a)) (.pointer (some b))).run P w = .ok (a == b) w := by
  rw [Op.equalIn]; simp only [Sem.run_bind, run_und ht, Result.andThen_ok, run_size hs, ne_eq, Nat.add_eq_zero_iff, Nat.one_ne_zero, and_false, not_false_eq_true, if_true, sameAddr, hb, beq_self_eq_true, Sem.run_pure]
theorem eqi_ii {ms : Array (String × TypeId)} (ht : P.underlying t = some (.interface ms)) : (Op.equalIn (d + 1) t .nilIface .nilIface).run P w = .ok true w := by
  rw [Op.equalIn]; simp only [Sem.run_bind, run_und ht, Result.andThen_ok, Sem.run_pure]
theorem eqi_ix {ms : Array (String × TypeId)} {u : TypeId} {v : Value} (ht : P.underlying t = some (.interface ms)) : (Op.equalIn (d + 1) t .nilIface (.iface u v)).run P w = .ok false w := by
  rw [Op.equalIn]; simp only [Sem.run_bind, run_und ht, Result.andThen_ok, Sem.run_pure]
theorem eqi_xi {ms : Array (String × TypeId)} {u : TypeId} {v : Value} (ht : P.underlying t = some (.interface ms)) : (Op.equalIn (d + 1) t (.iface u v) .nilIface).run P w = .ok false w := by
  rw [Op.equalIn]; simp only [Sem.run_bind, run_und ht, Result.andThen_ok, Sem.run_pure]
theorem eqi_ns {b : Option Addr} {n c m q : Nat} (ht : P.underlying t = some (.slice e)) : (Op.equalIn (d + 1) t (.slice none n c) (.slice b m q)).run P w = .ok b.isNone w := by
  rw [Op.equalIn]; simp only [Sem.run_bind, run_und ht, Result.andThen_ok, Sem.run_pure]
theorem eqi_sn {a : Addr} {n c m q : Nat} (ht : P.underlying t = some (.slice e)) : (Op.equalIn (d + 1) t (.slice (some a) n c) (.slice none m q)).run P w = .ok false w := by
  rw [Op.equalIn]; simp only [Sem.run_bind, run_und ht, Result.andThen_ok, Sem.run_pure]
theorem eqi_nm {b : Option Nat} (ht : P.underlying t = some (.map k e)) : (Op.equalIn (d + 1) t (.map none) (.map b)).run P w = .ok b.isNone w := by
  rw [Op.equalIn]; simp only [Sem.run_bind, run_und ht, Result.andThen_ok, Sem.run_pure]
theorem eqi_mn {a : Nat} (ht : P.underlying t = some (.map k e)) : (Op.equalIn (d + 1) t (.map (some a)) (.map none)).run P w = .ok false w := by
  rw [Op.equalIn]; simp only [Sem.run_bind, run_und ht, Result.andThen_ok, Sem.run_pure]
theorem eqi_ff {ps rs : Array TypeId} {v : Bool} (ht : P.underlying t = some (.func ps rs v)) : (Op.equalIn (d + 1) t .nilFunc .nilFunc).run P w = .ok true w := by
  rw [Op.equalIn]; simp only [Sem.run_bind, run_und ht, Result.andThen_ok, Sem.run_pure]
theorem eqi_fx {ps rs : Array TypeId} {v : Bool} {f : Fn} {p q : Array Value} (ht : P.underlying t = some (.func ps rs v)) : (Op.equalIn (d + 1) t .nilFunc (.func f p q)).run P w = .ok false w := by
  rw [Op.equalIn]; simp only [Sem.run_bind, run_und ht, Result.andThen_ok, Sem.run_pure]
theorem eqi_xf {ps rs : Array TypeId} {v : Bool} {f : Fn} {p q : Array Value} (ht : P.underlying t = some (.func ps rs v)) : (Op.equalIn (d + 1) t (.func f p q) .nilFunc).run P w = .ok false w := by
  rw [Op.equalIn]; simp only [Sem.run_bind, run_und ht, Result.andThen_ok, Sem.run_pure]
end

theorem eqV_in {t : TypeId} {cx cy : Bool} {a b : V} {x y : Value} {r : Bool} (h : binV.eqV P t cx cy a b = some r) (hx : VRel ρ a x) (hy : VRel ρ b y) (d : Nat) :
    (Op.equalIn (d + 2) t x y).run P w = .ok r w := by
  unfold binV.eqV at h
  split at h
  · rename_i ht; cases hx; cases hy; simp only [Option.some.injEq] at h; subst h; exact run_equalIn_bool' w (d + 1) t _ _ ht
  · rename_i ht; cases hx; cases hy; simp only [Option.some.injEq] at h; subst h; exact eqi_pn _ _ _ ht
  · rename_i ht; obtain ⟨L, _, rfl⟩ := hy; cases hx; simp only [Option.some.injEq] at h; subst h; exact eqi_pn _ _ _ ht
  · rename_i ht; obtain ⟨L, _, rfl⟩ := hx; cases hy; simp only [Option.some.injEq] at h; subst h; exact eqi_sp _ _ _ ht
  · rename_i e l o m p ht
    obtain ⟨L, hL, rfl⟩ := hx
    obtain ⟨M, hM, rfl⟩ := hy
    split at h
    · rename_i s hlm hs
      have := Nat.eq_of_beq_eq_true hlm
      subst this
      obtain rfl : L = M := Option.some.inj (hL.symm.trans hM)
      simp only [Option.some.injEq] at h
      subst h
      have hq : (L.at o == L.at p) = Nat.beq o p := by
        rw [Bool.eq_iff_iff, beq_iff_eq, Nat.beq_eq]
        simp [Loc.at]
      rw [eqi_pp (a := L.at o) (b := L.at p) _ _ _ ht hs rfl, hq]
    · cases h
  · rename_i ht; cases hx; cases hy
    split at h
    · simp only [Option.some.injEq] at h; subst h; exact eqi_ii _ _ ht
    · cases h
  · rename_i ht; obtain ⟨z, rfl, _⟩ := hy; cases hx; simp only [Option.some.injEq] at h; subst h; exact eqi_ix _ _ ht
  · rename_i ht; obtain ⟨z, rfl, _⟩ := hx; cases hy; simp only [Option.some.injEq] at h; subst h; exact eqi_xi _ _ ht
  · rename_i ht; cases hx; cases hy; simp only [Option.some.injEq] at h; subst h; exact eqi_ns _ _ _ ht
  · rename_i l o n c ht
    cases hx; simp only [Option.some.injEq] at h; subst h
    cases c with
    | u es => obtain ⟨L, a', c, _, _, _, _, rfl⟩ := hy; exact eqi_ns _ _ _ ht
    | k c => obtain ⟨L, _, _, rfl⟩ := hy; exact eqi_ns _ _ _ ht
  · rename_i l o n c ht
    cases hy; simp only [Option.some.injEq] at h; subst h
    cases c with
    | u es => obtain ⟨L, a', c, _, _, _, _, rfl⟩ := hx; exact eqi_sn _ _ _ ht
    | k c => obtain ⟨L, _, _, rfl⟩ := hx; exact eqi_sn _ _ _ ht
  · rename_i ht; cases hx; cases hy; simp only [Option.some.injEq] at h; subst h; exact eqi_nm _ _ _ _ ht
  · rename_i ht; obtain ⟨L, _, rfl⟩ := hy; cases hx; simp only [Option.some.injEq] at h; subst h; exact eqi_nm _ _ _ _ ht
  · rename_i ht; obtain ⟨L, _, rfl⟩ := hx; cases hy; simp only [Option.some.injEq] at h; subst h; exact eqi_mn _ _ _ _ ht
  · rename_i ht; cases hx; cases hy; simp only [Option.some.injEq] at h; subst h; exact eqi_ff _ _ ht
  · rename_i ht; obtain ⟨p, q, rfl, _⟩ := hy; cases hx; simp only [Option.some.injEq] at h; subst h; exact eqi_fx _ _ ht
  · rename_i ht; obtain ⟨p, q, rfl, _⟩ := hx; cases hy; simp only [Option.some.injEq] at h; subst h; exact eqi_xf _ _ ht
  · rename_i fs xs ys ht
    obtain ⟨xv, rfl, hxv⟩ := hx
    obtain ⟨yv, rfl, hyv⟩ := hy
    split at h
    · rename_i hs _
      have hfo : P.fieldsOf t = fs := by simp [Program.fieldsOf, ht]
      rw [run_equalIn_struct w (d + 1) t _ _ (by rw [hfo]; exact ht) hs, hfo]
      exact eqFields_ok hxv hyv d h
    · cases h
  · cases h
theorem eqV_ok {t : TypeId} {cx cy : Bool} {a b : V} {x y : Value} {r : Bool} (h : binV.eqV P t cx cy a b = some r) (hx : VRel ρ a x) (hy : VRel ρ b y) :
    (Op.equal t x y).run P w = .ok r w := eqV_in h hx hy 9998

theorem rel_niface {a : V} (h : VRel ρ a .nilIface) : a = .niface := by
  cases a with
  | slice l o n c => cases c with
    | u es => obtain ⟨_, _, _, _, _, _, _, h⟩ := h; cases h
    | k c => obtain ⟨_, _, _, h⟩ := h; cases h
  | int => cases h
  | bool => cases h
  | str => obtain ⟨_, h, _⟩ := h; cases h
  | ptr => obtain ⟨_, _, h⟩ := h; cases h
  | nptr => cases h
  | nslice => cases h
  | map => obtain ⟨_, _, h⟩ := h; cases h
  | nmap => cases h
  | func => obtain ⟨_, _, h, _⟩ := h; cases h
  | yield => obtain ⟨_, _, h⟩ := h; cases h
  | nfunc => cases h
  | iface => obtain ⟨_, h, _⟩ := h; cases h
  | niface => rfl
  | agg => obtain ⟨_, h, _⟩ := h; cases h
  | tup => obtain ⟨_, h, _⟩ := h; cases h
theorem rel_agg {a : V} {p : Array Value} (h : VRel ρ a (.agg p)) : ∃ cs, a = .agg cs := by
  cases a with
  | slice l o n c => cases c with
    | u es => obtain ⟨_, _, _, _, _, _, _, h⟩ := h; cases h
    | k c => obtain ⟨_, _, _, h⟩ := h; cases h
  | int => cases h
  | bool => cases h
  | str => obtain ⟨_, h, _⟩ := h; cases h
  | ptr => obtain ⟨_, _, h⟩ := h; cases h
  | nptr => cases h
  | nslice => cases h
  | map => obtain ⟨_, _, h⟩ := h; cases h
  | nmap => cases h
  | func => obtain ⟨_, _, h, _⟩ := h; cases h
  | yield => obtain ⟨_, _, h⟩ := h; cases h
  | nfunc => cases h
  | iface => obtain ⟨_, h, _⟩ := h; cases h
  | niface => cases h
  | agg cs => exact ⟨cs, rfl⟩
  | tup => obtain ⟨_, h, _⟩ := h; cases h

theorem run_guard {t : TypeId} {op : BinOp} {xo yo : Operand} {x y : Value} (h1 : x = .nilIface → y = .nilIface → (isConstB xo || isConstB yo) = true)
    (h2 : ∀ p q, x = .agg p → y = .agg q → P.eqGuardType P.depth t = false) : (eqGuard op t xo yo x y).run P w = .ok () w := by
  unfold eqGuard
  by_cases hop : (op matches .eql | .neq) = true
  · by_cases c1 : x = .nilIface ∧ y = .nilIface
    · obtain ⟨rfl, rfl⟩ := c1
      have := h1 rfl rfl
      rw [Bool.or_eq_true] at this
      rcases this with hc | hc
      · cases xo <;> simp [isConstB] at hc; simp
      · cases yo <;> simp [isConstB] at hc; simp
    · by_cases c2 : ∃ p q, x = .agg p ∧ y = .agg q
      · obtain ⟨p, q, rfl, rfl⟩ := c2
        simp [h2 p q rfl rfl]
      · cases x <;> first
          | (simp; done)
          | (cases y <;> first
              | (simp; done)
              | exact absurd ⟨rfl, rfl⟩ c1
              | exact absurd ⟨_, _, rfl, rfl⟩ c2)
  · cases op <;> first
      | (simp; done)
      | exact absurd rfl hop
theorem eqGuard_ok {t : TypeId} {op : BinOp} {xo yo : Operand} {a b : V} {x y : Value} {r : Bool} (h : binV.eqV P t (isConstB xo) (isConstB yo) a b = some r) (hx : VRel ρ a x) (hy : VRel ρ b y) :
    (eqGuard op t xo yo x y).run P w = .ok () w := by
  refine run_guard ?_ ?_
  · rintro rfl rfl
    obtain rfl := rel_niface hx
    obtain rfl := rel_niface hy
    unfold binV.eqV at h
    cases ht : P.underlying t with
    | none => simp [ht] at h
    | some d =>
      cases d <;> simp [ht] at h
      case interface ms =>
        split at h
        · rename_i hc; exact Bool.or_eq_true _ _ ▸ hc
        · cases h
  · rintro p q rfl rfl
    obtain ⟨cs, rfl⟩ := rel_agg hx
    obtain ⟨ds, rfl⟩ := rel_agg hy
    unfold binV.eqV at h
    cases ht : P.underlying t with
    | none => simp [ht] at h
    | some d =>
      cases d <;> simp only [ht] at h <;> try (cases h; done)
      case struct fs =>
        split at h
        · rename_i hg; exact hg
        · cases h
end
end Go.Vex
