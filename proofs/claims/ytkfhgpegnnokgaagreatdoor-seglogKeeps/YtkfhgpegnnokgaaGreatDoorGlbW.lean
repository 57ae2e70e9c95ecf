/-
  The library's variables at this seat: what the row's world says of them.
-/
import Derived.Test.YtkfhgpegnnokgaaGreatDoorGlb
import Derived.Test.YtkfhgpegnnokgaaGreatDoorRows
import Derived.KernelRfl
namespace Go.Proofs.YtkfhgpegnnokgaaGreatDoor
open Go Go.CM
theorem gErrNamed : Tryz.prog.globalNamed "strconv.ErrSyntax" = some gErr := by kernel_rfl
theorem gErrType : (Tryz.prog.globals[gErr]?).map (·.type) = some gErrI := by kernel_rfl
theorem gErrStar : "*" ++ "errors.errorString" = "*errors.errorString" := by decide
theorem gErrRow (u : TypeId) (h : Tryz.prog.typeName? 3 u = some "*errors.errorString") : u = gErrP :=
  typeName_ptr_named (nm := "errors.errorString") (by rw [gErrStar]; kernel_rfl) (by kernel_rfl) (by decide) u (by rw [gErrStar]; exact h)
theorem gErrPU : Tryz.prog.underlying gErrP = some (.pointer gErrS) := Tryz.underlying194
theorem gStrU : Tryz.prog.underlying 9 = some .string := Tryz.underlying9
theorem gErrSC : Tryz.prog.cellsOf gErrS = 1 := by kernel_rfl
theorem gStrC : Tryz.prog.cellsOf 9 = 1 := by kernel_rfl
theorem gPowNamed : Tryz.prog.globalNamed "internal/strconv.uint64pow10" = some gPow := by kernel_rfl
theorem gPowType : (Tryz.prog.globals[gPow]?).map (·.type) = some gPowT := by kernel_rfl
theorem gPowU : Tryz.prog.underlying gPowT = some (.array 20 140) := Tryz.underlying190
theorem gPowE : Tryz.prog.underlying 140 = some (.int .u64) := Tryz.underlying140
theorem gPowC1 : Tryz.prog.cellsOf 140 = 1 := by kernel_rfl
theorem gPowC2 : Tryz.prog.cellsOf gPowT = 20 := by kernel_rfl
theorem gPowTab : (Rows.laid_internal_strconv_uint64pow10 : DataW Unit) = Lib.tabData .u64 Lib.pow10Tab := by kernel_rfl
theorem gPowZero : ((begin Tryz.prog (fun _ _ => 0) default).world.heap[gPow]?).bind Obj.row? = some (Array.replicate 20 (Value.int .u64 0), gPowT) := by kernel_rfl
end Go.Proofs.YtkfhgpegnnokgaaGreatDoor
