/-
  The operations of functions of the program (printed by an own tool).
-/
import Derived.Test.YtdpnaneedjoboaaGreatDoorC0
namespace Go.Proofs.YtdpnaneedjoboaaGreatDoor
open Go Go.CM
set_option maxRecDepth 100000
def cstrconv_syntaxError : F := ⟨11, [.t 4], .seq (.ops [k_ 4 .nilp]) (.seq (.ops [m_ 5 0, m_ 6 1, r_ 8 (.load1 (.k (.ptr 1 0))), ⟨(some 7), (.ef (.call nstringslite_Clone [(.t 6)])), none, .all⟩, r_ 9 (.build [(.str []), (.str []), .nili] [(0, 1, (.t 5)), (1, 1, (.t 7)), (2, 1, (.t 8))]), e_ 10 (.box (.t 9)), m_ 4 10]) (.ret))⟩
theorem sstrconv_syntaxError {args : List V} {L : List Ob} {Q : V → List Ob → Prop} (h : ∀ H, Has H L → C.wp Tryz.prog cstrconv_syntaxError.body (kEnd cstrconv_syntaxError.res (CEnds Q)) (env0 args) H) (hl : Nat.ble args.length cstrconv_syntaxError.n = true := by exact rfl) : CallsL Tryz.prog nstrconv_syntaxError args L Q := opens Tryz.func63 (by kernel_rfl) h hl
def cstringslite_Clone : F := ⟨18, [.t 2], .seq (.ops [k_ 2 (.str [])]) (.seq (.seq (.ops [m_ 4 0, r_ 5 (.lenStr (.t 4)), r_ 6 (.bin .eql (.t 5) (.k (.int .i64 0)))]) (.cond (.t 6) (.seq (.ops [k_ 2 (.str [])]) (.ret)) (.skip))) (.seq (.ops [m_ 7 0, r_ 8 (.lenStr (.t 7)), e_ 9 (.mkSlT 5 1 1 [(.int .u8 0)] (.t 8) (.t 8)), m_ 3 9]) (.seq (.ops [m_ 10 3, m_ 11 0, e_ 12 (.copy 1 (.t 10) (.t 11))]) (.seq (.ops [m_ 13 3, r_ 14 (.iaddrS 1 (.t 13) (.k (.int .i64 0))), m_ 15 3, r_ 16 (.lenSl (.t 15)), e_ 17 (.ustr tuint8 (.t 14) (.t 16)), m_ 2 17]) (.ret)))))⟩
theorem sstringslite_Clone {args : List V} {L : List Ob} {Q : V → List Ob → Prop} (h : ∀ H, Has H L → C.wp Tryz.prog cstringslite_Clone.body (kEnd cstringslite_Clone.res (CEnds Q)) (env0 args) H) (hl : Nat.ble args.length cstringslite_Clone.n = true := by exact rfl) : CallsL Tryz.prog nstringslite_Clone args L Q := opens Tryz.func92 (by kernel_rfl) h hl
end Go.Proofs.YtdpnaneedjoboaaGreatDoor
