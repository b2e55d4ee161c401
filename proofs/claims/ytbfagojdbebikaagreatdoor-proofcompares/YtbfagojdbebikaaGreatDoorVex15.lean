/- VEX, part 15: calls, regions, code: what the evaluator yields, the model does. Generic in the program. -/
import Derived.Test.YtbfagojdbebikaaGreatDoorVex14
import Derived.Lib.Bytealg
import Derived.OrdersIn
import Derived.RangeFuncLeaves
import Derived.RangeFuncIn
namespace Go.Vex
open Go Go.RowKit

/-- The marks of a frame's range-over-func loops. -/
def DRel (ρ : Rho) : List Nat → List Deferred → Prop
  | [], ds => ds = []
  | d :: r, ds => ∃ L ds', ρ d = some L ∧ ds = { target := .collected L.blk, args := #[] } :: ds' ∧ DRel ρ r ds'
theorem DRel.mono {ρ ρ' : Rho} (h : ρ.le ρ') : ∀ {l : List Nat} {ds : List Deferred}, DRel ρ l ds → DRel ρ' l ds
  | [], _, r => r
  | _ :: _, _, ⟨L, ds', a, b, c⟩ => ⟨L, ds', h _ _ a, b, DRel.mono h c⟩

structure FrRel (ρ : Rho) (fr : Fr) (rb : Option Nat) (a : Act) : Prop where
  t : TRel ρ fr.ts fr.N a.tmps
  d : DRel ρ fr.dm a.defers
  r : match fr.ro with
    | none => rb = none
    | some l => ∃ L, ρ l = some L ∧ rb = some L.blk
theorem FrRel.mono {ρ ρ' : Rho} (h : ρ.le ρ') {fr : Fr} {rb : Option Nat} {a : Act} (k : FrRel ρ fr rb a) : FrRel ρ' fr rb a :=
  ⟨k.t.mono h, k.d.mono h, by
    have := k.r
    cases e : fr.ro with
    | none => rw [e] at this; exact this
    | some l => rw [e] at this; obtain ⟨L, x, y⟩ := this; exact ⟨L, h _ _ x, y⟩⟩

def FF (rb : Option Nat) : Fence := { Fence.wide with round := rb }

def ExRel : Ex → Exit → Prop
  | .normal, .normal => True
  | .ret, .ret => True
  | .exit i, .exit j => i = j
  | _, _ => False

def Ext.sem : Ext → Array Value → Sem Value
  | .same => Extern.AbiNoEscape.same
  | .indexByte => Extern.BytealgIndexByte.indexByte
  | .count => Extern.BytealgCount.count
  | _ => fun _ => stuck ""

/-- What the program at hand must show: its functions' names, and its functions without a body. -/
structure Fit (P : Program) (X : FuncId → Option Ext) (G : Nat) : Prop where
  mixed : P.follows .mixedOrders = true
  name : ∀ (f : FuncId) (fn : Func), P.funcs[f]? = some fn → fn.body.isSome = true → (fn.name == "runtime.NumGoroutine") = false
  ext : ∀ (f : FuncId) (x : Ext), X f = some x → (∀ b, x ≠ .known b) → ∀ (args : Array Value) (w : World), (callFunc f args).run P w = (do pure (Next.value (← x.sem args)) : Sem Next).run P w
  known : ∀ (f : FuncId) (b : Bool), X f = some (.known b) → (∃ fn, P.funcs[f]? = some fn ∧ fn.body.isSome = true) ∧ ∀ w : World, G ≤ w.heap.size → Calls P f #[] w fun e w' => e = .returned (.bool b) ∧ Below w.heap.size w w'

section
variable {P : Program} {X : FuncId → Option Ext} {G B : Nat} {ρ : Rho} {st : St} {w : World}

def CodePost (P : Program) (G B : Nat) (ρ : Rho) (st : St) (w : World) (rb : Option Nat) (e : Ex) (fr' : Fr) (st' : St) (ex : Exit) (a' : Act) (w' : World) : Prop :=
  ExRel e ex ∧ ∃ ρ', Step P G B ρ st w ρ' st' w' ∧ FrRel ρ' fr' rb a'
def ValPost (P : Program) (G B : Nat) (ρ : Rho) (st : St) (w : World) (v : V) (st' : St) (e : Ending) (w' : World) : Prop :=
  ∃ r ρ', e = .returned r ∧ VRel ρ' v r ∧ Step P G B ρ st w ρ' st' w'

structure Sound (P : Program) (G B : Nat) (slf : Job → St → Option Out) : Prop where
  code : ∀ {c fr st e fr' st'}, slf (.code c fr) st = some (.code e fr' st') → ∀ {ρ w a rb m}, HRep P G B ρ st w → FrRel ρ fr rb a → c.wpIn (FF rb) m P (CodePost P G B ρ st w rb e fr' st') a w
  enters : ∀ {f args st v st'}, slf (.call f args) st = some (.val v st') → ∃ fn, P.funcs[f]? = some fn ∧ fn.body.isSome = true
  call : ∀ {f args st v st'}, slf (.call f args) st = some (.val v st') → ∀ {ρ w xs m}, HRep P G B ρ st w → VRels ρ args xs → CallsIn Fence.wide m P f xs.toArray w (ValPost P G B ρ st w v st')
  yield : ∀ {l args st v st'}, slf (.yield l args) st = some (.val v st') → ∀ {ρ w xs m L}, HRep P G B ρ st w → VRels ρ args xs → ρ l = some L →
    ∃ fn tmps as_ b, (Instr.yield L.blk xs.toArray).run P w = .ok (.round L.blk fn tmps as_ b) w ∧ RoundIn Fence.wide m P L.blk fn tmps as_ b w (ValPost P G B ρ st w v st')

theorem callsIn_FF {rb : Option Nat} {m : Nat} {f : FuncId} {args : Array Value} {R : Ending → World → Prop} (h : CallsIn Fence.wide m P f args w R) : CallsIn (FF rb) m P f args w R := h
theorem roundIn_FF {rb : Option Nat} {m : Nat} {l : Nat} {f : FuncId} {tmps : Array Value} {as_ b : Code} {R : Ending → World → Prop} (h : RoundIn Fence.wide m P l f tmps as_ b w R) : RoundIn (FF rb) m P l f tmps as_ b w R := h

theorem callFunc_enter (fit : Fit P X G) {f : FuncId} {fn : Func} (hf : P.funcs[f]? = some fn) (hb : fn.body.isSome = true) (args : Array Value) : (callFunc f args).run P w = .ok (.enter f args) w := by
  have hn := fit.name f fn hf hb
  have hbn : fn.body.isNone = false := by cases e : fn.body <;> simp_all
  simp only [callFunc, Sem.run_bind, run_program, Result.andThen_ok, hf, hn, hbn, Bool.false_eq_true, if_false, Sem.run_pure]

theorem findByte_ok (c : UInt8) : ∀ (bs : List UInt8) (i : Nat) (y : ByteArray), (∀ j, bs[j]? = y.data.toList[i + j]?) → ∀ n, bs.length = n →
    ((List.range' i n).find? fun i => y[i]! == c) = findByte c.toNat (bs.map UInt8.toNat) i
  | [], i, y, h, n, hn => by
    subst hn
    rfl
  | b :: bs, i, y, h, n, hn => by
    subst hn
    have h0 := h 0
    rw [List.length_cons, List.range'_succ, List.find?_cons]
    have hy : y[i]! = b := by
      have h1 : y.data.toList[i]? = some b := by rw [← Nat.add_zero i, ← h0]; rfl
      rw [Array.getElem?_toList] at h1
      have hlt : i < y.data.size := (Array.getElem?_eq_some_iff.1 h1).1
      have hlt' : i < y.size := hlt
      rw [getElem!_pos y i hlt']
      rw [Array.getElem?_eq_getElem hlt] at h1
      exact Option.some.inj h1
    rw [hy]
    have hbeq : (b == c) = Nat.beq b.toNat c.toNat := by
      rw [Bool.eq_iff_iff, beq_iff_eq, Nat.beq_eq]; exact UInt8.toNat_inj.symm
    simp only [List.map_cons, findByte, ← hbeq]
    cases hq : (b == c) with
    | true => rfl
    | false => exact findByte_ok c bs (i + 1) y (fun j => by have := h (j + 1); rw [List.getElem?_cons_succ] at this; rw [this]; congr 1; omega) bs.length rfl

theorem countByte_ok (c : UInt8) : ∀ (bs : List UInt8), Lib.countByte bs c = countByte c.toNat (bs.map UInt8.toNat)
  | [] => rfl
  | b :: bs => by
    have hbeq : (b == c) = Nat.beq b.toNat c.toNat := by
      rw [Bool.eq_iff_iff, beq_iff_eq, Nat.beq_eq]; exact UInt8.toNat_inj.symm
    have ih := countByte_ok c bs
    unfold Lib.countByte at ih ⊢
    rw [List.count_cons, ih]
    simp only [List.map_cons, countByte, ← hbeq]
    cases hq : (b == c) with
    | true => simp
    | false => simp

theorem extV_ok (h : HRep P G B ρ st w) {x : Ext} {vs : List V} {xs : List Value} {v : V} {st' : St} (hno : ∀ b, x ≠ .known b) (hv : extV x vs st = some (v, st')) (hx : VRels ρ vs xs) : VOK P G B ρ st w (x.sem xs.toArray) v st' := by
  unfold extV at hv
  split at hv
  · obtain ⟨X, rfl, h1⟩ := hx.one
    simp only [Option.some.injEq, Prod.mk.injEq] at hv
    obtain ⟨rfl, rfl⟩ := hv
    exact VOK.pure h rfl h1
  · rename_i s b
    obtain ⟨X, Y, rfl, h1, h2⟩ := hx.two
    obtain ⟨y, rfl, hy⟩ := h1
    cases h2
    split at hv
    · rename_i hb
      simp only [Option.some.injEq, Prod.mk.injEq] at hv
      obtain ⟨rfl, rfl⟩ := hv
      have hc : (b.toNat.toUInt8).toNat = b.toNat := by simp; omega
      have hfind := findByte_ok b.toNat.toUInt8 y.data.toList 0 y (fun j => by rw [Nat.zero_add]) y.size (by simp)
      rw [hc, hy] at hfind
      have hrun : (Extern.BytealgIndexByte.indexByte #[.string y, .int .u8 b]).run P w = .ok (match findByte b.toNat s 0 with | some i => goInt i | none => goInt (-1)) w := by
        rw [← hfind]
        have hdef : Extern.BytealgIndexByte.indexByte #[.string y, .int .u8 b] = (do
            let b' ← Extern.Bytes.bytesOf (.string y)
            let c ← Extern.Bytes.asByte (.int .u8 b)
            match (List.range b'.size).find? fun i => b'[i]! == c with
            | some i => pure (goInt i)
            | none => pure (goInt (-1))) := rfl
        rw [hdef]
        simp only [Extern.Bytes.bytesOf, Extern.Bytes.asByte, Sem.run_bind, Sem.run_pure, Result.andThen_ok, List.range_eq_range']
        cases (List.range' 0 y.size).find? fun i => y[i]! == b.toNat.toUInt8 <;> rfl
      refine VOK.pure h hrun ?_
      cases findByte b.toNat s 0 <;> rfl
    · cases hv
  · rename_i s b
    obtain ⟨X, Y, rfl, h1, h2⟩ := hx.two
    obtain ⟨y, rfl, hy⟩ := h1
    cases h2
    split at hv
    · rename_i hb
      simp only [Option.some.injEq, Prod.mk.injEq] at hv
      obtain ⟨rfl, rfl⟩ := hv
      have hc : (b.toNat.toUInt8).toNat = b.toNat := by simp; omega
      have hrun := Lib.run_countString (P := P) y b w
      rw [countByte_ok, hc, hy] at hrun
      exact VOK.pure h hrun rfl
    · cases hv
  · exact absurd rfl (hno _)
  · cases hv

/-- Nothing that was there turns. -/
theorem Step.below_same (h : HRep P G B ρ st w) {w' : World} (hb : Below w.heap.size w w') : Step P G B ρ st w ρ st w' := by
  have hblk : ∀ k, k < w.heap.size → w'.heap[k]? = w.heap[k]? := fun k hk => hb.block k hk
  refine ⟨.refl _, ⟨fun l o hl => ?_, h.apart, h.fresh, fun l L hL => Nat.lt_of_lt_of_le (h.size l L hL) hb.size, h.glob, Nat.le_trans h.base hb.size⟩, Nat.le_refl _, ⟨hb.os, hb.tape, hb.output, hb.size, fun k hk _ => hblk k hk⟩,
    fun l o L h1 h3 => .inr ⟨l, o, L, h1, h3, rfl, id⟩, fun _ _ _ h => h⟩
  obtain ⟨L, a, b⟩ := h.obj l o hl
  exact ⟨L, a, b.of_block (.refl _) (hblk _ (h.size l L a))⟩
end
end Go.Vex
