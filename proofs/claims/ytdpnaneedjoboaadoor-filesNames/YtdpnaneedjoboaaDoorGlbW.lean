/-
  The library's variables at this seat: what the row's world says of them.
-/
import Derived.Test.YtdpnaneedjoboaaDoorGlb
import Derived.Test.YtdpnaneedjoboaaDoorRows
import Derived.KernelRfl
namespace Go.Proofs.YtdpnaneedjoboaaDoor
open Go Go.CM
theorem gErrNamed : Tryd.prog.globalNamed "strconv.ErrSyntax" = some gErr := by kernel_rfl
theorem gErrType : (Tryd.prog.globals[gErr]?).map (·.type) = some gErrI := by kernel_rfl
theorem gErrStar : "*" ++ "errors.errorString" = "*errors.errorString" := by decide
theorem gErrRow (u : TypeId) (h : Tryd.prog.typeName? 3 u = some "*errors.errorString") : u = gErrP :=
  typeName_ptr_named (nm := "errors.errorString") (by rw [gErrStar]; kernel_rfl) (by kernel_rfl) (by decide) u (by rw [gErrStar]; exact h)
theorem gErrPU : Tryd.prog.underlying gErrP = some (.pointer gErrS) := Tryd.underlying73
theorem gStrU : Tryd.prog.underlying 9 = some .string := Tryd.underlying9
theorem gErrSC : Tryd.prog.cellsOf gErrS = 1 := by kernel_rfl
theorem gStrC : Tryd.prog.cellsOf 9 = 1 := by kernel_rfl
theorem gPowNamed : Tryd.prog.globalNamed "internal/strconv.uint64pow10" = some gPow := by kernel_rfl
theorem gPowType : (Tryd.prog.globals[gPow]?).map (·.type) = some gPowT := by kernel_rfl
theorem gPowU : Tryd.prog.underlying gPowT = some (.array 20 54) := Tryd.underlying79
theorem gPowE : Tryd.prog.underlying 54 = some (.int .u64) := Tryd.underlying54
theorem gPowC1 : Tryd.prog.cellsOf 54 = 1 := by kernel_rfl
theorem gPowC2 : Tryd.prog.cellsOf gPowT = 20 := by kernel_rfl
theorem gPowTab : (Rows.laid_internal_strconv_uint64pow10 : DataW Unit) = Lib.tabData .u64 Lib.pow10Tab := by kernel_rfl
theorem gPowZero : ((begin Tryd.prog (fun _ _ => 0) default).world.heap[gPow]?).bind Obj.row? = some (Array.replicate 20 (Value.int .u64 0), gPowT) := by kernel_rfl
end Go.Proofs.YtdpnaneedjoboaaDoor
