/- How the interpreter runs this program: which functions are called by value, which are answered from outside. No conditions. -/
import Derived.Test.YthcpmjljdncigaaGreatDoorZVExt
import Derived.Test.YthcpmjljdncigaaGreatDoorZKeep
namespace Go.Proofs.YthcpmjljdncigaaGreatDoor
open Go Go.V
def pureFs : List Nat := [27, 47, 48, 77, 99, 112, 78, 100, 56]
def valueFs : List Nat := [9]
def vmOf (g : FuncId) : Nat := if pureFs.contains g then 2 else if valueFs.contains g then 1 else 0
def shownV : List AV → Option AV
  | [] => some (.bool true)
  | _ => none
def ext1 (g : FuncId) : Option (List AV → Option AV) :=
  if g = 123 then some indexByteV else if g = 145 then some countV else if g = 7 then some shownV else none
noncomputable def C1 : Cfg := { P := Tryz.prog, vm := vmOf, ext := ext1, keep := keepOf, keepL := keepLOf }
theorem C1_P : C1.P = Tryz.prog := rfl
theorem C1_keepL {fn : Func} {n : Nat} : C1.keepL fn n = keepLOf fn n := rfl
theorem KLD {n : Nat} : keepLOf default n = none := by kernel_rfl
end Go.Proofs.YthcpmjljdncigaaGreatDoor
