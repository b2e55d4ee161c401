/- The seat's own facts (Tryz): its functions without a body; awake() of layer 57 answers true. -/
import Derived.Test.YtbfagojdbebikaaGreatDoorProg
import Derived.KernelRfl
import Derived.Laws.Externs
import Derived.Test.YtbfagojdbebikaaGreatDoorVex25
namespace Go.Proofs.YtbfagojdbebikaaGreatDoor
open Go Go.Vex Go.RowKit

def X : FuncId → Option Ext := fun f => match Nat.beq f 189 with | true => some .same | false => match Nat.beq f 197 with | true => some .indexByte | false => match Nat.beq f 104 with | true => some .count | false => none

/-- With awake's answer known. -/
def Xk : FuncId → Option Ext := fun f => match Nat.beq f 6 with | true => some (.known true) | false => X f

theorem names_ok : (Tryz.prog.funcs.toList.all fun fn => !(fn.name == "runtime.NumGoroutine")) = true := by kernel_rfl

theorem ext_of {f : FuncId} {fn : Func} {x : Ext} (hf : Tryz.prog.funcs[f]? = some fn) (hname : (fn.name == "runtime.NumGoroutine") = false)
    (hb : fn.body.isNone = true) (hn : (Extern.findNext fn).isNone = true) (he : Extern.find fn = some x.sem) (args : Array Value) (w : World) :
    (callFunc f args).run Tryz.prog w = (do pure (Next.value (← x.sem args)) : Sem Next).run Tryz.prog w := by
  rw [run_callFunc_extern hf hname hb (Option.isNone_iff_eq_none.1 hn) he]
  simp only [Sem.run_bind, Sem.run_pure]

theorem fit : Fit Tryz.prog X 8 := by
  refine ⟨by kernel_rfl, fun f fn hf _ => ?_, fun f x hx _ args w => ?_, fun f b hx => ?_⟩
  · have h := List.all_eq_true.1 names_ok fn (by
      rw [← Array.getElem?_toList] at hf
      exact List.mem_of_getElem? hf)
    simpa using h
  · unfold X at hx
    split at hx
    · rename_i hf
      obtain rfl := Nat.eq_of_beq_eq_true hf
      obtain rfl := Option.some.inj hx
      exact ext_of Tryz.func189 (by kernel_rfl) (by kernel_rfl) (by kernel_rfl) (by rfl) args w
    · split at hx
      · rename_i hf
        obtain rfl := Nat.eq_of_beq_eq_true hf
        obtain rfl := Option.some.inj hx
        exact ext_of Tryz.func197 (by kernel_rfl) (by kernel_rfl) (by kernel_rfl) (by rfl) args w
      · split at hx
        · rename_i hf
          obtain rfl := Nat.eq_of_beq_eq_true hf
          obtain rfl := Option.some.inj hx
          exact ext_of Tryz.func104 (by kernel_rfl) (by kernel_rfl) (by kernel_rfl) (by rfl) args w
        · cases hx
  · unfold X at hx
    split at hx
    · cases hx
    · split at hx
      · cases hx
      · split at hx
        · cases hx
        · cases hx
end Go.Proofs.YtbfagojdbebikaaGreatDoor
