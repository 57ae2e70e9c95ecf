/-
  The operations of functions of the program (printed by an own tool).
-/
import Derived.Test.YtdpnaneedjoboaaGreatDoorCmG
import Derived.Test.YtdpnaneedjoboaaGreatDoorRows
namespace Go.Proofs.YtdpnaneedjoboaaGreatDoor
open Go Go.CM
set_option maxRecDepth 100000
abbrev r_ (d : Nat) (x : R) : I := ⟨some d, .rd x, none, .no⟩
abbrev rg_ (d s : Nat) (b : Bool) (x : R) : I := ⟨some d, .rd x, some (s, b), .no⟩
abbrev e_ (d : Nat) (x : E) : I := ⟨some d, .ef x, none, .no⟩
abbrev eg_ (d s : Nat) (b : Bool) (x : E) : I := ⟨some d, .ef x, some (s, b), .no⟩
abbrev w_ (x : E) : I := ⟨none, .ef x, none, .no⟩
abbrev m_ (d s : Nat) : I := ⟨some d, .rd (.mov (.t s)), none, .no⟩
abbrev k_ (d : Nat) (v : V) : I := ⟨some d, .rd (.mov (.k v)), none, .no⟩
theorem hm : Tryz.prog.follows .mixedOrders = true := by kernel_rfl
theorem opens {f : FuncId} {fn : Func} (hf : Tryz.prog.funcs[f]? = some fn) {cf : F} (hc : compF Tryz.prog fn = some cf) {args : List V} {L : List Ob} {Q : V → List Ob → Prop} (h : ∀ H, Has H L → C.wp Tryz.prog cf.body (kEnd cf.res (CEnds Q)) (env0 args) H) (hl : Nat.ble args.length cf.n = true) : CallsL Tryz.prog f args L Q := CallsL.intro hm hf hc (Nat.le_of_ble_eq_true hl) fun H hh => f_start rfl rfl (h H hh)
abbrev nlaw08_FilesNobody : FuncId := 3
abbrev nlaw08_FilesAll : FuncId := 4
abbrev nlaw08_awake : FuncId := 5
abbrev nfiles_All : FuncId := 6
abbrev nfiles_Last : FuncId := 7
abbrev nfiles_Size : FuncId := 8
abbrev nfiles_Clear : FuncId := 9
abbrev ndisk_New : FuncId := 10
abbrev ndisk_Disk_Append : FuncId := 11
abbrev nref08_Number : FuncId := 12
abbrev ndisk_Disk_Names : FuncId := 13
abbrev nfiles_Number : FuncId := 14
abbrev nfiles_Name : FuncId := 15
abbrev nslices_Sort_int : FuncId := 16
abbrev ndisk_Disk_Read : FuncId := 17
abbrev ndisk_Disk_Remove : FuncId := 18
abbrev ndisk_Disk_Room : FuncId := 19
abbrev ndisk_Disk_dead : FuncId := 20
abbrev ndisk_right : FuncId := 21
abbrev ndisk_Disk_there : FuncId := 22
abbrev ndisk_Disk_Used : FuncId := 23
abbrev nref08_Name : FuncId := 24
abbrev nslices_Sorted_string : FuncId := 25
abbrev nmaps_Keys_string : FuncId := 26
abbrev nstrings_CutPrefix : FuncId := 27
abbrev nstrconv_Atoi : FuncId := 28
abbrev nfiles_right : FuncId := 29
abbrev nstrconv_Itoa : FuncId := 30
abbrev nslices_pdqsortOrdered_int : FuncId := 31
abbrev nbits_Len : FuncId := 32
abbrev ndisk_Disk_late : FuncId := 33
abbrev ndisk_Disk_ready : FuncId := 34
abbrev ndisk_Disk_forget : FuncId := 35
abbrev ndisk_Disk_Waits : FuncId := 36
abbrev nref08_digits : FuncId := 37
abbrev nslices_Collect_string : FuncId := 38
abbrev nslices_Sort_string : FuncId := 39
abbrev nmaps_Keys_1_string : FuncId := 40
abbrev nstringslite_CutPrefix : FuncId := 41
abbrev nstrconv_Atoi_v1 : FuncId := 42
abbrev nstrconv_toError : FuncId := 43
abbrev nstrings_Trim : FuncId := 44
abbrev nstrconv_Itoa_v1 : FuncId := 45
abbrev nslices_insertionSortOrdered_int : FuncId := 46
abbrev nslices_heapSortOrdered_int : FuncId := 47
abbrev nslices_breakPatternsOrdered_int : FuncId := 48
abbrev nslices_choosePivotOrdered_int : FuncId := 49
abbrev nslices_reverseRangeOrdered_int : FuncId := 50
abbrev nslices_partialInsertionSortOrdered_int : FuncId := 51
abbrev ncmp_Less_int : FuncId := 52
abbrev nslices_partitionEqualOrdered_int : FuncId := 53
abbrev nslices_partitionOrdered_int : FuncId := 54
abbrev nbits_Len32 : FuncId := 55
abbrev nbits_Len64 : FuncId := 56
abbrev nslices_DeleteFunc_disk_wait : FuncId := 57
abbrev ndisk_Disk_forget_1 : FuncId := 58
abbrev nslices_AppendSeq_string : FuncId := 59
abbrev nslices_pdqsortOrdered_string : FuncId := 60
abbrev nstringslite_HasPrefix : FuncId := 61
abbrev nstrconv_ParseInt : FuncId := 62
abbrev nstrconv_syntaxError : FuncId := 63
abbrev nstrconv_rangeError : FuncId := 64
abbrev nstrconv_baseError : FuncId := 65
abbrev nstrconv_bitSizeError : FuncId := 66
abbrev nstrings_trimLeftByte : FuncId := 67
abbrev nstrings_trimRightByte : FuncId := 68
abbrev nstrings_makeASCIISet : FuncId := 69
abbrev nstrings_trimLeftASCII : FuncId := 70
abbrev nstrings_trimRightASCII : FuncId := 71
abbrev nstrings_trimLeftUnicode : FuncId := 72
abbrev nstrings_trimRightUnicode : FuncId := 73
abbrev nstrconv_FormatInt : FuncId := 74
abbrev nslices_siftDownOrdered_int : FuncId := 75
abbrev nslices_nextPowerOfTwo : FuncId := 76
abbrev nslices_xorshift_Next : FuncId := 77
abbrev nslices_medianAdjacentOrdered_int : FuncId := 78
abbrev nslices_medianOrdered_int : FuncId := 79
abbrev ncmp_isNaN_int : FuncId := 80
abbrev nslices_IndexFunc_disk_wait : FuncId := 81
abbrev nslices_insertionSortOrdered_string : FuncId := 82
abbrev nslices_heapSortOrdered_string : FuncId := 83
abbrev nslices_breakPatternsOrdered_string : FuncId := 84
abbrev nslices_choosePivotOrdered_string : FuncId := 85
abbrev nslices_reverseRangeOrdered_string : FuncId := 86
abbrev nslices_partialInsertionSortOrdered_string : FuncId := 87
abbrev ncmp_Less_string : FuncId := 88
abbrev nslices_partitionEqualOrdered_string : FuncId := 89
abbrev nslices_partitionOrdered_string : FuncId := 90
abbrev nstrconv_ParseUint : FuncId := 91
abbrev nstringslite_Clone : FuncId := 92
abbrev nerrors_New : FuncId := 93
abbrev nstrings_asciiSet_contains : FuncId := 94
abbrev nutf8_DecodeRuneInString : FuncId := 95
abbrev nstrings_ContainsRune : FuncId := 96
abbrev nutf8_DecodeLastRuneInString : FuncId := 97
abbrev nstrconv_small : FuncId := 98
abbrev nstrconv_numDigits : FuncId := 99
abbrev nstrconv_formatBits : FuncId := 101
abbrev nslices_order2Ordered_int : FuncId := 102
abbrev nslices_siftDownOrdered_string : FuncId := 103
abbrev nslices_medianAdjacentOrdered_string : FuncId := 104
abbrev nslices_medianOrdered_string : FuncId := 105
abbrev ncmp_isNaN_string : FuncId := 106
abbrev nstrconv_lower : FuncId := 107
abbrev nstrconv_underscoreOK : FuncId := 108
abbrev nutf8_decodeRuneInStringSlow : FuncId := 109
abbrev nstrings_IndexRune : FuncId := 110
abbrev nutf8_RuneStart : FuncId := 111
abbrev nstrconv_log10Pow2 : FuncId := 112
abbrev nstrconv_bool2_int : FuncId := 113
abbrev nstrconv_isPowerOfTwo : FuncId := 114
abbrev nbits_TrailingZeros : FuncId := 115
abbrev nslices_order2Ordered_string : FuncId := 116
abbrev nstrings_IndexByte : FuncId := 117
abbrev nutf8_ValidRune : FuncId := 118
abbrev nbits_TrailingZeros32 : FuncId := 121
abbrev nbits_TrailingZeros64 : FuncId := 122
abbrev nstringslite_IndexByte : FuncId := 123
abbrev nbytealg_IndexByteString : FuncId := 124
abbrev tstrconv_Error : TypeId := 91
abbrev tP_strconv_NumError : TypeId := 94
abbrev tuint8 : TypeId := 5
abbrev tP_errors_errorString : TypeId := 138
abbrev tstring : TypeId := 9
def claw08_FilesNobody : F := ⟨30, [.t 4], .seq (.ops [k_ 4 (.bool false)]) (.seq (.seq (.ops [e_ 5 (.call nlaw08_awake []), r_ 6 (.un .not (.t 5))]) (.cond (.t 6) (.seq (.ops [k_ 4 (.bool false)]) (.ret)) (.skip))) (.seq (.seq (.ops [m_ 7 0, r_ 8 (.lenStr (.t 7)), r_ 9 (.bin .gtr (.t 8) (.k (.int .i64 30)))]) (.cond (.t 9) (.seq (.ops [k_ 4 (.bool true)]) (.ret)) (.skip))) (.seq (.ops [m_ 10 0, e_ 11 (.call nfiles_All [(.k .nilp), (.t 10)]), r_ 12 (.lenSl (.t 11)), r_ 13 (.bin .eql (.t 12) (.k (.int .i64 0))), m_ 14 13, rg_ 15 14 true (.mov (.t 0)), eg_ 16 14 true (.call nfiles_Last [(.k .nilp), (.t 15)]), rg_ 17 14 true (.bin .eql (.t 16) (.k (.int .i64 0))), r_ 18 (.pick (.t 14) (.t 17) (.k (.bool false))), m_ 19 18, rg_ 20 19 true (.mov (.t 0)), eg_ 21 19 true (.call nfiles_Size [(.k .nilp), (.t 20)]), rg_ 22 19 true (.bin .eql (.t 21) (.k (.int .i64 0))), r_ 23 (.pick (.t 19) (.t 22) (.k (.bool false))), m_ 24 23, rg_ 25 24 true (.mov (.t 0)), rg_ 26 24 true (.mov (.t 1)), eg_ 27 24 true (.call nfiles_Clear [(.k .nilp), (.t 25), (.t 26)]), rg_ 28 24 true (.bin .eql (.t 27) (.k (.int .i64 0))), r_ 29 (.pick (.t 24) (.t 28) (.k (.bool false))), m_ 4 29]) (.ret))))⟩
theorem slaw08_FilesNobody {args : List V} {L : List Ob} {Q : V → List Ob → Prop} (h : ∀ H, Has H L → C.wp Tryz.prog claw08_FilesNobody.body (kEnd claw08_FilesNobody.res (CEnds Q)) (env0 args) H) (hl : Nat.ble args.length claw08_FilesNobody.n = true := by exact rfl) : CallsL Tryz.prog nlaw08_FilesNobody args L Q := opens Tryz.func3 (by kernel_rfl) h hl
def claw08_awake : F := ⟨16, [.t 0], .seq (.ops [k_ 0 (.bool false)]) (.seq (.ops [e_ 4 (.call nfiles_Number [(.k (.str [108, 111, 103])), (.k (.str [108, 111, 103, 46, 49, 50]))]), m_ 3 4, r_ 5 (.ext (.t 3) 0), r_ 6 (.ext (.t 3) 1), m_ 1 5, m_ 2 6]) (.seq (.ops [e_ 7 (.call nfiles_Name [(.k (.str [108, 111, 103])), (.k (.int .i64 12))]), r_ 8 (.bin .eql (.t 7) (.k (.str [108, 111, 103, 46, 49, 50]))), m_ 9 8, rg_ 10 9 true (.mov (.t 2)), r_ 11 (.pick (.t 9) (.t 10) (.k (.bool false))), m_ 12 11, rg_ 13 12 true (.mov (.t 1)), rg_ 14 12 true (.bin .eql (.t 13) (.k (.int .i64 12))), r_ 15 (.pick (.t 12) (.t 14) (.k (.bool false))), m_ 0 15]) (.ret)))⟩
theorem slaw08_awake {args : List V} {L : List Ob} {Q : V → List Ob → Prop} (h : ∀ H, Has H L → C.wp Tryz.prog claw08_awake.body (kEnd claw08_awake.res (CEnds Q)) (env0 args) H) (hl : Nat.ble args.length claw08_awake.n = true := by exact rfl) : CallsL Tryz.prog nlaw08_awake args L Q := opens Tryz.func5 (by kernel_rfl) h hl
def cfiles_All : F := ⟨32, [.t 4], .seq (.ops [k_ 4 .nils]) (.seq (.ops [k_ 5 .nils]) (.seq (.seq (.ops [m_ 10 0, e_ 11 (.call ndisk_Disk_Names [(.t 10)]), r_ 12 (.lenSl (.t 11)), k_ 13 (.int .i64 0)]) (.block 0 (.loop (.seq (.ops [r_ 14 (.bin .lss (.t 13) (.t 12))]) (.seq (.cond (.t 14) (.skip) (.exit 0)) (.seq (.block 1 (.seq (.ops [r_ 15 (.iaddrS 1 (.t 11) (.t 13)), r_ 16 (.load1 (.t 15)), m_ 7 16]) (.seq (.ops [m_ 18 1, m_ 19 7, e_ 20 (.call nfiles_Number [(.t 18), (.t 19)]), m_ 17 20, r_ 21 (.ext (.t 17) 0), r_ 22 (.ext (.t 17) 1), m_ 8 21, m_ 9 22]) (.seq (.ops [m_ 23 9]) (.cond (.t 23) (.ops [m_ 24 5, m_ 25 8, e_ 26 (.lit 1 1 [(.int .i64 0)] [(0, 1, (.t 25))]), e_ 27 (.app 1 8 (.t 24) (.t 26)), m_ 5 27]) (.skip)))))) (.ops [r_ 28 (.bin .add (.t 13) (.k (.int .i64 1))), m_ 13 28]))))))) (.seq (.ops [m_ 29 5, e_ 30 (.call nslices_Sort_int [(.t 29)])]) (.seq (.ops [m_ 31 5, m_ 4 31]) (.ret)))))⟩
theorem sfiles_All {args : List V} {L : List Ob} {Q : V → List Ob → Prop} (h : ∀ H, Has H L → C.wp Tryz.prog cfiles_All.body (kEnd cfiles_All.res (CEnds Q)) (env0 args) H) (hl : Nat.ble args.length cfiles_All.n = true := by exact rfl) : CallsL Tryz.prog nfiles_All args L Q := opens Tryz.func6 (by kernel_rfl) h hl
def cfiles_Last : F := ⟨18, [.t 4], .seq (.ops [k_ 4 (.int .i64 0)]) (.seq (.ops [m_ 6 0, m_ 7 1, e_ 8 (.call nfiles_All [(.t 6), (.t 7)]), m_ 5 8]) (.seq (.seq (.ops [m_ 9 5, r_ 10 (.lenSl (.t 9)), r_ 11 (.bin .eql (.t 10) (.k (.int .i64 0)))]) (.cond (.t 11) (.seq (.ops [k_ 4 (.int .i64 0)]) (.ret)) (.skip))) (.seq (.ops [m_ 12 5, m_ 13 5, r_ 14 (.lenSl (.t 13)), r_ 15 (.bin .sub (.t 14) (.k (.int .i64 1))), r_ 16 (.iaddrS 1 (.t 12) (.t 15)), r_ 17 (.load1 (.t 16)), m_ 4 17]) (.ret))))⟩
theorem sfiles_Last {args : List V} {L : List Ob} {Q : V → List Ob → Prop} (h : ∀ H, Has H L → C.wp Tryz.prog cfiles_Last.body (kEnd cfiles_Last.res (CEnds Q)) (env0 args) H) (hl : Nat.ble args.length cfiles_Last.n = true := by exact rfl) : CallsL Tryz.prog nfiles_Last args L Q := opens Tryz.func7 (by kernel_rfl) h hl
def cfiles_Size : F := ⟨34, [.t 4], .seq (.ops [k_ 4 (.int .i64 0)]) (.seq (.ops [k_ 5 (.int .i64 0)]) (.seq (.seq (.ops [m_ 10 0, m_ 11 1, e_ 12 (.call nfiles_All [(.t 10), (.t 11)]), r_ 13 (.lenSl (.t 12)), k_ 14 (.int .i64 0)]) (.block 0 (.loop (.seq (.ops [r_ 15 (.bin .lss (.t 14) (.t 13))]) (.seq (.cond (.t 15) (.skip) (.exit 0)) (.seq (.block 1 (.seq (.ops [r_ 16 (.iaddrS 1 (.t 12) (.t 14)), r_ 17 (.load1 (.t 16)), m_ 7 17]) (.seq (.ops [m_ 19 0, m_ 20 1, m_ 21 7, e_ 22 (.call nfiles_Name [(.t 20), (.t 21)]), e_ 23 (.call ndisk_Disk_Read [(.t 19), (.t 22)]), m_ 18 23, r_ 24 (.ext (.t 18) 0), r_ 25 (.ext (.t 18) 1), m_ 8 24, m_ 9 25]) (.seq (.ops [m_ 26 9, r_ 27 (.bin .eql (.t 26) (.k (.int .i64 0)))]) (.cond (.t 27) (.ops [m_ 28 5, m_ 29 8, r_ 30 (.lenStr (.t 29)), r_ 31 (.bin .add (.t 28) (.t 30)), m_ 5 31]) (.skip)))))) (.ops [r_ 32 (.bin .add (.t 14) (.k (.int .i64 1))), m_ 14 32]))))))) (.seq (.ops [m_ 33 5, m_ 4 33]) (.ret))))⟩
theorem sfiles_Size {args : List V} {L : List Ob} {Q : V → List Ob → Prop} (h : ∀ H, Has H L → C.wp Tryz.prog cfiles_Size.body (kEnd cfiles_Size.res (CEnds Q)) (env0 args) H) (hl : Nat.ble args.length cfiles_Size.n = true := by exact rfl) : CallsL Tryz.prog nfiles_Size args L Q := opens Tryz.func8 (by kernel_rfl) h hl
def cfiles_Clear : F := ⟨33, [.t 6], .seq (.ops [k_ 6 (.int .i64 0)]) (.seq (.ops [k_ 7 (.int .i64 0)]) (.seq (.seq (.ops [m_ 10 0, m_ 11 1, e_ 12 (.call nfiles_All [(.t 10), (.t 11)]), r_ 13 (.lenSl (.t 12)), k_ 14 (.int .i64 0)]) (.block 0 (.loop (.seq (.ops [r_ 15 (.bin .lss (.t 14) (.t 13))]) (.seq (.cond (.t 15) (.skip) (.exit 0)) (.seq (.block 1 (.seq (.ops [r_ 16 (.iaddrS 1 (.t 12) (.t 14)), r_ 17 (.load1 (.t 16)), m_ 9 17]) (.seq (.ops [m_ 18 9, m_ 19 2, r_ 20 (.bin .lss (.t 18) (.t 19)), m_ 21 20, rg_ 22 21 true (.mov (.t 0)), rg_ 23 21 true (.mov (.t 1)), rg_ 24 21 true (.mov (.t 9)), eg_ 25 21 true (.call nfiles_Name [(.t 23), (.t 24)]), eg_ 26 21 true (.call ndisk_Disk_Remove [(.t 22), (.t 25)]), rg_ 27 21 true (.bin .eql (.t 26) (.k (.int .i64 0))), r_ 28 (.pick (.t 21) (.t 27) (.k (.bool false)))]) (.cond (.t 28) (.ops [m_ 29 7, r_ 30 (.bin .add (.t 29) (.k (.int .i64 1))), m_ 7 30]) (.skip))))) (.ops [r_ 31 (.bin .add (.t 14) (.k (.int .i64 1))), m_ 14 31]))))))) (.seq (.ops [m_ 32 7, m_ 6 32]) (.ret))))⟩
theorem sfiles_Clear {args : List V} {L : List Ob} {Q : V → List Ob → Prop} (h : ∀ H, Has H L → C.wp Tryz.prog cfiles_Clear.body (kEnd cfiles_Clear.res (CEnds Q)) (env0 args) H) (hl : Nat.ble args.length cfiles_Clear.n = true := by exact rfl) : CallsL Tryz.prog nfiles_Clear args L Q := opens Tryz.func9 (by kernel_rfl) h hl
def cdisk_Disk_Names : F := ⟨11, [.t 2], .seq (.ops [k_ 2 .nils]) (.seq (.seq (.ops [m_ 3 0, r_ 4 (.eq .ptr false (.t 3) (.k .nilp))]) (.cond (.t 4) (.seq (.ops [k_ 2 .nils]) (.ret)) (.skip))) (.seq (.ops [m_ 5 0, r_ 6 (.nilck (.t 5)), r_ 7 (.faddr 0 (.t 6)), r_ 8 (.load1 (.t 7)), e_ 9 (.call nmaps_Keys_string [(.t 8)]), e_ 10 (.call nslices_Sorted_string [(.t 9)]), m_ 2 10]) (.ret)))⟩
theorem sdisk_Disk_Names {args : List V} {L : List Ob} {Q : V → List Ob → Prop} (h : ∀ H, Has H L → C.wp Tryz.prog cdisk_Disk_Names.body (kEnd cdisk_Disk_Names.res (CEnds Q)) (env0 args) H) (hl : Nat.ble args.length cdisk_Disk_Names.n = true := by exact rfl) : CallsL Tryz.prog ndisk_Disk_Names args L Q := opens Tryz.func13 (by kernel_rfl) h hl
def cfiles_Number : F := ⟨43, [.t 4, .t 5], .seq (.ops [k_ 4 (.int .i64 0), k_ 5 (.bool false)]) (.seq (.ops [m_ 11 1, m_ 12 0, r_ 13 (.bin .add (.t 12) (.k (.str [46]))), e_ 14 (.call nstrings_CutPrefix [(.t 11), (.t 13)]), m_ 10 14, r_ 15 (.ext (.t 10) 0), r_ 16 (.ext (.t 10) 1), m_ 6 15, m_ 7 16]) (.seq (.seq (.ops [m_ 17 7, r_ 18 (.un .not (.t 17)), m_ 19 18, rg_ 20 19 false (.mov (.t 6)), rg_ 21 19 false (.lenStr (.t 20)), rg_ 22 19 false (.bin .gtr (.t 21) (.k (.int .i64 5))), r_ 23 (.pick (.t 19) (.k (.bool true)) (.t 22))]) (.cond (.t 23) (.seq (.ops [k_ 4 (.int .i64 0), k_ 5 (.bool false)]) (.ret)) (.skip))) (.seq (.ops [m_ 25 6, e_ 26 (.call nstrconv_Atoi [(.t 25)]), m_ 24 26, r_ 27 (.ext (.t 24) 0), r_ 28 (.ext (.t 24) 1), m_ 8 27, m_ 9 28]) (.seq (.seq (.ops [m_ 29 9, r_ 30 (.eq (.iface true [2, 3, 5, 6, 12, 21, 33, 68, 75, 83, 85, 91, 105, 161, 162, 164, 165]) true (.t 29) (.k .nili)), m_ 31 30, rg_ 32 31 false (.mov (.t 0)), rg_ 33 31 false (.mov (.t 8)), eg_ 34 31 false (.call nfiles_Name [(.t 32), (.t 33)]), rg_ 35 31 false (.mov (.t 1)), rg_ 36 31 false (.bin .neq (.t 34) (.t 35)), r_ 37 (.pick (.t 31) (.k (.bool true)) (.t 36)), m_ 38 37, rg_ 39 38 false (.mov (.t 1)), rg_ 40 38 false (.bin .eql (.t 39) (.k (.str []))), r_ 41 (.pick (.t 38) (.k (.bool true)) (.t 40))]) (.cond (.t 41) (.seq (.ops [k_ 4 (.int .i64 0), k_ 5 (.bool false)]) (.ret)) (.skip))) (.seq (.ops [m_ 42 8, m_ 4 42, k_ 5 (.bool true)]) (.ret))))))⟩
theorem sfiles_Number {args : List V} {L : List Ob} {Q : V → List Ob → Prop} (h : ∀ H, Has H L → C.wp Tryz.prog cfiles_Number.body (kEnd cfiles_Number.res (CEnds Q)) (env0 args) H) (hl : Nat.ble args.length cfiles_Number.n = true := by exact rfl) : CallsL Tryz.prog nfiles_Number args L Q := opens Tryz.func14 (by kernel_rfl) h hl
def cfiles_Name : F := ⟨21, [.t 4], .seq (.ops [k_ 4 (.str [])]) (.seq (.seq (.ops [m_ 5 0, e_ 6 (.call nfiles_right [(.t 5)]), r_ 7 (.un .not (.t 6)), m_ 8 7, rg_ 9 8 false (.mov (.t 1)), rg_ 10 8 false (.bin .lss (.t 9) (.k (.int .i64 1))), r_ 11 (.pick (.t 8) (.k (.bool true)) (.t 10)), m_ 12 11, rg_ 13 12 false (.mov (.t 1)), rg_ 14 12 false (.bin .gtr (.t 13) (.k (.int .i64 99999))), r_ 15 (.pick (.t 12) (.k (.bool true)) (.t 14))]) (.cond (.t 15) (.seq (.ops [k_ 4 (.str [])]) (.ret)) (.skip))) (.seq (.ops [m_ 16 0, r_ 17 (.bin .add (.t 16) (.k (.str [46]))), m_ 18 1, e_ 19 (.call nstrconv_Itoa [(.t 18)]), r_ 20 (.bin .add (.t 17) (.t 19)), m_ 4 20]) (.ret)))⟩
theorem sfiles_Name {args : List V} {L : List Ob} {Q : V → List Ob → Prop} (h : ∀ H, Has H L → C.wp Tryz.prog cfiles_Name.body (kEnd cfiles_Name.res (CEnds Q)) (env0 args) H) (hl : Nat.ble args.length cfiles_Name.n = true := by exact rfl) : CallsL Tryz.prog nfiles_Name args L Q := opens Tryz.func15 (by kernel_rfl) h hl
def cstrings_CutPrefix : F := ⟨11, [.t 4, .t 5], .seq (.ops [k_ 4 (.str []), k_ 5 (.bool false)]) (.seq (.ops [m_ 6 0, m_ 7 1, e_ 8 (.call nstringslite_CutPrefix [(.t 6), (.t 7)]), r_ 9 (.ext (.t 8) 0), r_ 10 (.ext (.t 8) 1), m_ 4 9, m_ 5 10]) (.ret))⟩
theorem sstrings_CutPrefix {args : List V} {L : List Ob} {Q : V → List Ob → Prop} (h : ∀ H, Has H L → C.wp Tryz.prog cstrings_CutPrefix.body (kEnd cstrings_CutPrefix.res (CEnds Q)) (env0 args) H) (hl : Nat.ble args.length cstrings_CutPrefix.n = true := by exact rfl) : CallsL Tryz.prog nstrings_CutPrefix args L Q := opens Tryz.func27 (by kernel_rfl) h hl
def cstrconv_Atoi : F := ⟨18, [.t 2, .t 3], .seq (.ops [k_ 2 (.int .i64 0), k_ 3 .nili]) (.seq (.ops [m_ 7 0, e_ 8 (.call nstrconv_Atoi_v1 [(.t 7)]), m_ 6 8, r_ 9 (.ext (.t 6) 0), r_ 10 (.ext (.t 6) 1), m_ 4 9, m_ 5 10]) (.seq (.seq (.ops [m_ 11 5, r_ 12 (.eq (.iface true [2, 3, 5, 6, 12, 21, 33, 68, 75, 83, 85, 91, 105, 161, 162, 164, 165]) true (.t 11) (.k .nili))]) (.cond (.t 12) (.seq (.ops [m_ 13 4, m_ 14 0, m_ 15 5, e_ 16 (.call nstrconv_toError [(.k (.str [65, 116, 111, 105])), (.t 14), (.k (.int .i64 0)), (.k (.int .i64 0)), (.t 15)]), m_ 2 13, m_ 3 16]) (.ret)) (.skip))) (.seq (.ops [m_ 17 4, m_ 2 17, k_ 3 .nili]) (.ret))))⟩
theorem sstrconv_Atoi {args : List V} {L : List Ob} {Q : V → List Ob → Prop} (h : ∀ H, Has H L → C.wp Tryz.prog cstrconv_Atoi.body (kEnd cstrconv_Atoi.res (CEnds Q)) (env0 args) H) (hl : Nat.ble args.length cstrconv_Atoi.n = true := by exact rfl) : CallsL Tryz.prog nstrconv_Atoi args L Q := opens Tryz.func28 (by kernel_rfl) h hl
def cfiles_right : F := ⟨15, [.t 2], .seq (.ops [k_ 2 (.bool false)]) (.seq (.ops [m_ 3 0, r_ 4 (.bin .neq (.t 3) (.k (.str []))), m_ 5 4, rg_ 6 5 true (.mov (.t 0)), rg_ 7 5 true (.lenStr (.t 6)), rg_ 8 5 true (.bin .leq (.t 7) (.k (.int .i64 5))), r_ 9 (.pick (.t 5) (.t 8) (.k (.bool false))), m_ 10 9, rg_ 11 10 true (.mov (.t 0)), eg_ 12 10 true (.call nstrings_Trim [(.t 11), (.k (.str [97, 98, 99, 100, 101, 102, 103, 104, 105, 106, 107, 108, 109, 110, 111, 112, 113, 114, 115, 116, 117, 118, 119, 120, 121, 122]))]), rg_ 13 10 true (.bin .eql (.t 12) (.k (.str []))), r_ 14 (.pick (.t 10) (.t 13) (.k (.bool false))), m_ 2 14]) (.ret))⟩
theorem sfiles_right {args : List V} {L : List Ob} {Q : V → List Ob → Prop} (h : ∀ H, Has H L → C.wp Tryz.prog cfiles_right.body (kEnd cfiles_right.res (CEnds Q)) (env0 args) H) (hl : Nat.ble args.length cfiles_right.n = true := by exact rfl) : CallsL Tryz.prog nfiles_right args L Q := opens Tryz.func29 (by kernel_rfl) h hl
def cstringslite_CutPrefix : F := ⟨15, [.t 4, .t 5], .seq (.ops [k_ 4 (.str []), k_ 5 (.bool false)]) (.seq (.seq (.ops [m_ 6 0, m_ 7 1, e_ 8 (.call nstringslite_HasPrefix [(.t 6), (.t 7)]), r_ 9 (.un .not (.t 8))]) (.cond (.t 9) (.seq (.ops [m_ 10 0, m_ 4 10, k_ 5 (.bool false)]) (.ret)) (.skip))) (.seq (.ops [m_ 11 0, m_ 12 1, r_ 13 (.lenStr (.t 12)), r_ 14 (.cutStr (.t 11) (some (.t 13)) none), m_ 4 14, k_ 5 (.bool true)]) (.ret)))⟩
theorem sstringslite_CutPrefix {args : List V} {L : List Ob} {Q : V → List Ob → Prop} (h : ∀ H, Has H L → C.wp Tryz.prog cstringslite_CutPrefix.body (kEnd cstringslite_CutPrefix.res (CEnds Q)) (env0 args) H) (hl : Nat.ble args.length cstringslite_CutPrefix.n = true := by exact rfl) : CallsL Tryz.prog nstringslite_CutPrefix args L Q := opens Tryz.func41 (by kernel_rfl) h hl
def cstrconv_toError : F := ⟨43, [.t 10], .seq (.ops [k_ 10 .nili]) (.seq (.seq (.ops [m_ 11 4]) (.block 0 (.seq (.ops [r_ 13 (.mkIface tstrconv_Error (.k (.int .i64 2))), r_ 14 (.eq (.iface false [2, 3, 5, 6, 12, 21, 33, 68, 75, 83, 85, 91, 105, 161, 162, 164, 165]) false (.t 11) (.t 13)), m_ 12 14]) (.cond (.t 12) (.seq (.ops [m_ 15 0, m_ 16 1, e_ 17 (.call nstrconv_syntaxError [(.t 15), (.t 16)]), r_ 18 (.mkIface tP_strconv_NumError (.t 17)), m_ 10 18]) (.ret)) (.seq (.ops [r_ 20 (.mkIface tstrconv_Error (.k (.int .i64 1))), r_ 21 (.eq (.iface false [2, 3, 5, 6, 12, 21, 33, 68, 75, 83, 85, 91, 105, 161, 162, 164, 165]) false (.t 11) (.t 20)), m_ 19 21]) (.cond (.t 19) (.seq (.ops [m_ 22 0, m_ 23 1, e_ 24 (.call nstrconv_rangeError [(.t 22), (.t 23)]), r_ 25 (.mkIface tP_strconv_NumError (.t 24)), m_ 10 25]) (.ret)) (.seq (.ops [r_ 27 (.mkIface tstrconv_Error (.k (.int .i64 3))), r_ 28 (.eq (.iface false [2, 3, 5, 6, 12, 21, 33, 68, 75, 83, 85, 91, 105, 161, 162, 164, 165]) false (.t 11) (.t 27)), m_ 26 28]) (.cond (.t 26) (.seq (.ops [m_ 29 0, m_ 30 1, m_ 31 2, e_ 32 (.call nstrconv_baseError [(.t 29), (.t 30), (.t 31)]), r_ 33 (.mkIface tP_strconv_NumError (.t 32)), m_ 10 33]) (.ret)) (.seq (.ops [r_ 35 (.mkIface tstrconv_Error (.k (.int .i64 4))), r_ 36 (.eq (.iface false [2, 3, 5, 6, 12, 21, 33, 68, 75, 83, 85, 91, 105, 161, 162, 164, 165]) false (.t 11) (.t 35)), m_ 34 36]) (.cond (.t 34) (.seq (.ops [m_ 37 0, m_ 38 1, m_ 39 3, e_ 40 (.call nstrconv_bitSizeError [(.t 37), (.t 38), (.t 39)]), r_ 41 (.mkIface tP_strconv_NumError (.t 40)), m_ 10 41]) (.ret)) (.skip))))))))))) (.seq (.ops [m_ 42 4, m_ 10 42]) (.ret)))⟩
theorem sstrconv_toError {args : List V} {L : List Ob} {Q : V → List Ob → Prop} (h : ∀ H, Has H L → C.wp Tryz.prog cstrconv_toError.body (kEnd cstrconv_toError.res (CEnds Q)) (env0 args) H) (hl : Nat.ble args.length cstrconv_toError.n = true := by exact rfl) : CallsL Tryz.prog nstrconv_toError args L Q := opens Tryz.func43 (by kernel_rfl) h hl
def cstringslite_HasPrefix : F := ⟨18, [.t 4], .seq (.ops [k_ 4 (.bool false)]) (.seq (.ops [m_ 5 0, r_ 6 (.lenStr (.t 5)), m_ 7 1, r_ 8 (.lenStr (.t 7)), r_ 9 (.bin .geq (.t 6) (.t 8)), m_ 10 9, rg_ 11 10 true (.mov (.t 0)), rg_ 12 10 true (.mov (.t 1)), rg_ 13 10 true (.lenStr (.t 12)), rg_ 14 10 true (.cutStr (.t 11) none (some (.t 13))), rg_ 15 10 true (.mov (.t 1)), rg_ 16 10 true (.bin .eql (.t 14) (.t 15)), r_ 17 (.pick (.t 10) (.t 16) (.k (.bool false))), m_ 4 17]) (.ret))⟩
theorem sstringslite_HasPrefix {args : List V} {L : List Ob} {Q : V → List Ob → Prop} (h : ∀ H, Has H L → C.wp Tryz.prog cstringslite_HasPrefix.body (kEnd cstringslite_HasPrefix.res (CEnds Q)) (env0 args) H) (hl : Nat.ble args.length cstringslite_HasPrefix.n = true := by exact rfl) : CallsL Tryz.prog nstringslite_HasPrefix args L Q := opens Tryz.func61 (by kernel_rfl) h hl
end Go.Proofs.YtdpnaneedjoboaaGreatDoor
