/- VEX, part 11: append, as the model runs it. Generic in the program. -/
import Derived.Test.YtbfagojdbebikaaGreatDoorVex10
namespace Go.Vex
open Go Go.RowKit

section
variable {P : Program} {G B : Nat} {ρ : Rho} {st : St} {w : World}

/-- What the model's append needs to know of what is appended: how many, and the cells, in a world. -/
structure Src (P : Program) (e : TypeId) (size n : Nat) (X : Value) (b : Bool) (arr : Array Value) (w : World) : Prop where
  len : b = false → (Builtin.lenOf X).run P w = .ok n w
  first : b = false → (Builtin.firstCells size n X).run P w = .ok arr w
  int : b = true → ∃ k, X = .int k n
  bound : n ≤ 1048576
  zeros : b = true → (n * size = 0 ∧ arr = #[]) ∨ (¬ n * size = 0 ∧ ∃ z, (∀ w, (zeroValue e).run P w = .ok z w) ∧ arr = Builtin.zeroCells z.cells n)

theorem wrap_n {n : Nat} (h : n ≤ 1048576) : IntKind.i64.wrap (n : Int) = n := IntWalk.i64_in _ (by omega)

set_option maxHeartbeats 4000000 in
theorem run_append_fits {t : TypeId} {tx : List TypeId} {ty e : TypeId} {size n sLen sCap : Nat} {X : Value} {b : Bool} {arr : Array Value} {w' : World} {a : Addr} {i : TypeInfo} (ht : P.underlying t = some (.slice e)) (hs : sizeV P e = some size)
    (hi : P.info? e = some i) (hib : i.bytes ≤ 1048576) (hz : zerosB P tx = some b) (src : Src P e size n X b arr w)
    (hfit : sLen + n ≤ sCap) (hst : (storeCells (a.add (sLen * size)) arr.toList).run P w = .ok () w') :
    (Builtin.append_ (t :: tx).toArray ty #[.slice (some a) sLen sCap, X]).run P w = .ok (.slice (some a) (sLen + n) sCap) w' := by
  cases tx with
  | nil =>
    simp only [zerosB, Option.some.injEq] at hz
    subst hz
    simp [Builtin.append_, run_und ht, run_size hs, src.len rfl, src.first rfl, hfit, hst]
  | cons u r =>
    simp only [zerosB] at hz
    cases hu : P.underlying u with
    | none => simp [hu] at hz
    | some d =>
      cases b with
      | false =>
        cases d <;> simp [hu] at hz <;> simp [Builtin.append_, run_und ht, run_und hu, run_size hs, src.len rfl, src.first rfl, hfit, hst]
      | true =>
        cases d <;> simp [hu] at hz
        obtain ⟨k, rfl⟩ := src.int rfl
        have hneg : ¬ (n : Int) < 0 := by omega
        have hbn : ¬ (281474976710656 : Int) < (n : Int) * (i.bytes : Int) := by
          have := src.bound
          have : n * i.bytes ≤ 1048576 * 1048576 := Nat.mul_le_mul (by omega) hib
          have : (n : Int) * (i.bytes : Int) = ((n * i.bytes : Nat) : Int) := by simp
          omega
        rcases src.zeros rfl with ⟨h0, rfl⟩ | ⟨h0, z, hz1, rfl⟩
        · simp [Builtin.append_, run_und ht, run_und hu, run_size hs, asInt, asIntOf, wrap_n src.bound, run_info hi, hbn, hneg, h0, hfit, hst]
        · simp [Builtin.append_, run_und ht, run_und hu, run_size hs, asInt, asIntOf, wrap_n src.bound, run_info hi, hbn, hneg, h0, hz1, hfit, hst]

set_option maxHeartbeats 4000000 in
theorem run_append_grows {t : TypeId} {tx : List TypeId} {ty e : TypeId} {size n sLen sCap : Nat} {X : Value} {b : Bool} {arr old : Array Value} {base : Option Addr} {i : TypeInfo} {z : Value} (ht : P.underlying t = some (.slice e)) (hs : sizeV P e = some size)
    (hi : P.info? e = some i) (hib : i.bytes ≤ 1048576) (hz0 : ∀ w, (zeroValue e).run P w = .ok z w) (hz : zerosB P tx = some b) (src : Src P e size n X b arr w) (src' : Src P e size n X b arr w.drew)
    (hnfit : ¬ sLen + n ≤ sCap) (hsl : sLen ≤ 1048576) (hold : (Builtin.firstCells size sLen (.slice base sLen sCap)).run P w.drew = .ok old w.drew) :
    ∃ cap, sLen + n ≤ cap ∧ (Builtin.append_ (t :: tx).toArray ty #[.slice base sLen sCap, X]).run P w = .ok (.slice (some ⟨w.heap.size, 0, none⟩) (sLen + n) cap)
      (w.drew.alloc (.cells (old ++ (arr ++ Builtin.zeroCells z.cells (cap - (sLen + n)))) e)) := by
  have hb := src.bound
  have h63 : ¬ (9223372036854775807 : Int) < (sLen : Int) + (n : Int) := by omega
  have h48 : ¬ 281474976710656 < Builtin.nextslicecap (sLen + n) sCap * i.bytes := by
    have h1 := nextslicecap_le (need := sLen + n) (old := sCap) (by omega)
    have : Builtin.nextslicecap (sLen + n) sCap * i.bytes ≤ 4194304 * 1048576 := Nat.mul_le_mul (by omega) hib
    omega
  refine ⟨grownCap w (sLen + n) sCap e, cut_cap _ _ _ _, ?_⟩
  cases tx with
  | nil =>
    simp only [zerosB, Option.some.injEq] at hz
    subst hz
    simp [Builtin.append_, run_und ht, run_size hs, src.len rfl, src'.first rfl, hnfit, run_info hi, h63, h48, Question.forced, hold, hz0, newRow, grownCap]
  | cons u r =>
    simp only [zerosB] at hz
    cases hu : P.underlying u with
    | none => simp [hu] at hz
    | some d =>
      cases b with
      | false =>
        cases d <;> simp [hu] at hz <;> simp [Builtin.append_, run_und ht, run_und hu, run_size hs, src.len rfl, src'.first rfl, hnfit, run_info hi, h63, h48, Question.forced, hold, hz0, newRow, grownCap]
      | true =>
        cases d <;> simp [hu] at hz
        obtain ⟨k, rfl⟩ := src.int rfl
        have hneg : ¬ (n : Int) < 0 := by omega
        have hbn : ¬ (281474976710656 : Int) < (n : Int) * (i.bytes : Int) := by
          have : n * i.bytes ≤ 1048576 * 1048576 := Nat.mul_le_mul (by omega) hib
          have : (n : Int) * (i.bytes : Int) = ((n * i.bytes : Nat) : Int) := by simp
          omega
        rcases src.zeros rfl with ⟨h0, rfl⟩ | ⟨h0, z', hz1, rfl⟩
        · simp [Builtin.append_, run_und ht, run_und hu, run_size hs, asInt, asIntOf, wrap_n src.bound, run_info hi, hbn, hneg, h0, hnfit, h63, h48, Question.forced, hold, hz0, newRow, grownCap]
        · have hzz : z = z' := by
            have h1 := hz0 w
            rw [hz1 w] at h1
            cases h1
            rfl
          subst hzz
          simp [Builtin.append_, run_und ht, run_und hu, run_size hs, asInt, asIntOf, wrap_n src.bound, run_info hi, hbn, hneg, h0, hz0, hnfit, h63, h48, Question.forced, hold, newRow, grownCap]

set_option maxHeartbeats 4000000 in
theorem run_append_nothing {t : TypeId} {tx : List TypeId} {ty e : TypeId} {size : Nat} {X : Value} {b : Bool} {arr : Array Value} {i : TypeInfo} (ht : P.underlying t = some (.slice e)) (hs : sizeV P e = some size)
    (hi : P.info? e = some i) (hz : zerosB P tx = some b) (src : Src P e size 0 X b arr w) :
    (Builtin.append_ (t :: tx).toArray ty #[.slice none 0 0, X]).run P w = .ok (.slice none 0 0) w := by
  cases tx with
  | nil =>
    simp only [zerosB, Option.some.injEq] at hz
    subst hz
    simp [Builtin.append_, run_und ht, run_size hs, src.len rfl, src.first rfl]
  | cons u r =>
    simp only [zerosB] at hz
    cases hu : P.underlying u with
    | none => simp [hu] at hz
    | some d =>
      cases b with
      | false =>
        cases d <;> simp [hu] at hz <;> simp [Builtin.append_, run_und ht, run_und hu, run_size hs, src.len rfl, src.first rfl]
      | true =>
        cases d <;> simp [hu] at hz
        obtain ⟨k, rfl⟩ := src.int rfl
        simp [Builtin.append_, run_und ht, run_und hu, run_size hs, asInt, asIntOf, IntWalk.i64_in, run_info hi]
end
end Go.Vex
