/-
  Check sums of 32 bits.
-/
import Derived.Test.YtkfhgpegnnokgaaGreatDoorC0
import Derived.Test.YtkfhgpegnnokgaaGreatDoorC1
import Derived.Test.YtkfhgpegnnokgaaGreatDoorC2
import Derived.Test.YtkfhgpegnnokgaaGreatDoorCmG
namespace Go.Proofs.YtkfhgpegnnokgaaGreatDoor
open Go Go.CM
set_option maxRecDepth 100000
set_option maxHeartbeats 4000000

def stepC (s : Wd) : Wd := if s &&& 1 = 1 then (s >>> 1) ^^^ 3988292384#32 else s >>> 1
def stepsC : Nat → Wd → Wd
  | 0, s => s
  | n + 1, s => stepC (stepsC n s)
@[irreducible] def byteW (s : Wd) (b : UInt8) : Wd := stepsC 8 (s ^^^ wdB b)
@[irreducible] def nextW (t : List UInt8) (i : Nat) : Wd := (t.take i).foldl byteW (~~~ (0 : Wd))
def crcW (t : List UInt8) : Wd := ~~~ (nextW t t.length)
theorem bit_iff (s : Wd) : (((s &&& 1).toNat : Nat) : Int) = 1 ↔ s &&& 1 = 1 := by
  constructor
  · intro h
    apply BitVec.eq_of_toNat_eq
    show _ = 1
    omega
  · intro h; rw [h]; rfl
theorem and_one (x : Wd) : IntKind.u32.wrap ((BitVec.ofInt IntKind.u32.bits ((x.toNat : Nat) : Int) &&& BitVec.ofInt IntKind.u32.bits 1).toNat : Nat) = ((x &&& 1).toNat : Nat) := (V.int.inj (Option.some.inj (wd_and x 1))).2
theorem xor_poly (x : Wd) : IntKind.u32.wrap ((BitVec.ofInt IntKind.u32.bits ((x.toNat : Nat) : Int) ^^^ BitVec.ofInt IntKind.u32.bits 3988292384).toNat : Nat) = ((x ^^^ 3988292384#32).toNat : Nat) := (V.int.inj (Option.some.inj (wd_xor x 3988292384#32))).2
theorem cbyte_prog (s : Wd) (b : UInt8) : CallsR Tryz.prog ncrc_byteMore [.int .u32 (s.toNat : Nat), .int .u8 (b.toNat : Nat)] [] fun v => v = .int .u32 ((byteW s b).toNat : Nat) := by
  unfold byteW
  refine scrc_byteMore fun H hh => ?_
  dsimp only [ccrc_byteMore]
  refine walk1 (k := ?_)
  repeat' first | refine And.intro ?_ ?_ | intro
  all_goals refine leaf ?_
  refine loopN [0, 10] 8 (fun i vs L => vs = [.int .u32 ((stepsC i (s ^^^ wdB b)).toNat : Nat), .int .i64 (i : Nat)] ∧ L = []) (Nx.here ⟨rfl, rfl⟩) ?_
  clear hh
  rintro i _ _ env H hi ⟨rfl, rfl⟩ hh
  simp only [puts]
  by_cases hn : i < 8
  · have hst : stepsC (i + 1) (s ^^^ wdB b) = stepC (stepsC i (s ^^^ wdB b)) := rfl
    generalize stepsC i (s ^^^ wdB b) = x at *
    refine walk1 (k := ?_)
    repeat' first | refine And.intro ?_ ?_ | intro
    all_goals refine leaf ?_
    refine c_cond_t (by show V.bool _ = _; simp; omega) ?_
    refine walk1 (k := ?_)
    repeat' first | refine And.intro ?_ ?_ | intro
    all_goals refine leaf ?_
    unfold stepC at hst
    by_cases hb : x &&& 1 = 1
    · rw [if_pos hb] at hst
      refine c_cond_t (by show V.bool _ = _; rw [and_one]; exact congrArg V.bool (beq_iff_eq.2 ((bit_iff x).2 hb))) ?_
      refine walk1 (k := ?_)
      repeat' first | refine And.intro ?_ ?_ | intro
      all_goals refine leaf ?_
      exact Nx.next hn ⟨by rw [hst, ← xor_poly]; rfl, rfl⟩
    · rw [if_neg hb] at hst
      refine c_cond_f (by show V.bool _ = _; rw [and_one]; exact congrArg V.bool (beq_eq_false_iff_ne.2 fun k => hb ((bit_iff x).1 k))) ?_
      refine walk1 (k := ?_)
      repeat' first | refine And.intro ?_ ?_ | intro
      all_goals refine leaf ?_
      exact Nx.next hn ⟨by rw [hst]; rfl, rfl⟩
  · have h8 : i = 8 := by omega
    subst h8
    refine walk1 (k := ?_)
    repeat' first | refine And.intro ?_ ?_ | intro
    all_goals refine leaf ?_
    exact doneR rfl
theorem crc_prog (t : List UInt8) (ht : t.length ≤ 1000000) : CallsR Tryz.prog ncrc_Of [.str t] [] fun v => v = .int .u32 ((crcW t).toNat : Nat) := by
  have h1 : CallsR Tryz.prog ncrc_Next [.int .u32 0, .str t] [] fun v => v = .int .u32 ((crcW t).toNat : Nat) := by
    refine scrc_Next fun H hh => ?_
    dsimp only [ccrc_Next]
    refine walk1 (k := ?_)
    repeat' first | refine And.intro ?_ ?_ | intro
    all_goals refine leaf ?_
    refine c_slot (s := 5) (v := .int .u32 ((nextW t 0).toNat : Nat)) (by rw [show nextW t 0 = ~~~ (0 : Wd) by unfold nextW; rfl]; exact congrArg (V.int .u32) (by decide)) ?_
    refine loopN [1, 5, 10, 11] t.length (fun i vs L => vs = [.str t, .int .u32 ((nextW t i).toNat : Nat), .int .i64 t.length, .int .i64 (i : Nat)] ∧ L = []) (Nx.here ⟨rfl, rfl⟩) ?_
    clear hh
    rintro i _ _ env H hi ⟨rfl, rfl⟩ hh
    simp only [puts]
    by_cases hn : i < t.length
    · have h2 : t.take (i + 1) = t.take i ++ [t.getD i 0] := by rw [List.getD_eq_getElem?_getD, List.getElem?_eq_getElem hn]; simp [List.take_append_getElem]
      have h3 : nextW t (i + 1) = byteW (nextW t i) (t.getD i 0) := by unfold nextW; rw [h2, List.foldl_append]; rfl
      have h4 := cbyte_prog (nextW t i) (t.getD i 0)
      refine walk1 (k := ?_)
      repeat' first | refine And.intro ?_ ?_ | intro
      all_goals refine leaf ?_
      refine c_cond_t (by show V.bool _ = _; simp; omega) ?_
      refine walk1 (k := ?_)
      repeat' first | refine And.intro ?_ ?_ | intro
      all_goals refine leaf ?_
      refine callE (h4) ?_
      refine walk1 (k := ?_)
      repeat' first | refine And.intro ?_ ?_ | intro
      all_goals refine leaf ?_
      exact Nx.next hn ⟨by rw [h3]; rfl, rfl⟩
    · skip
      refine walk1 (k := ?_)
      repeat' first | refine And.intro ?_ ?_ | intro
      all_goals refine leaf ?_
      refine c_cond_f (by show V.bool _ = _; simp; omega) ?_
      have hi2 : i = t.length := by omega
      subst hi2
      refine walk1 (k := ?_)
      repeat' first | refine And.intro ?_ ?_ | intro
      all_goals refine leaf ?_
      exact doneR rfl
  refine scrc_Of fun H hh => ?_
  dsimp only [ccrc_Of]
  refine walk1 (k := ?_)
  repeat' first | refine And.intro ?_ ?_ | intro
  all_goals refine leaf ?_
  refine callE (h1) ?_
  refine walk1 (k := ?_)
  repeat' first | refine And.intro ?_ ?_ | intro
  all_goals refine leaf ?_
  exact doneR rfl
def fourW (w : Wd) : List UInt8 := [bWd (w >>> 24), bWd (w >>> 16), bWd (w >>> 8), bWd w]
def sealT (t : List UInt8) : List UInt8 := t ++ fourW (crcW t)
theorem seal_len (t : List UInt8) : (sealT t).length = t.length + 4 := by rw [sealT, List.length_append]; rfl
theorem catC {a b : List UInt8} (h : a.length + b.length ≤ 1000000000) : binV .add (.str a) (.str b) = some (.str (a ++ b)) := if_neg (show ¬ ((a.length + b.length : Nat) : Int) > 9223372036854775807 by omega)
theorem seal_prog (t : List UInt8) (ht : t.length ≤ 1000000) : CallsR Tryz.prog ncrc_Seal [.str t] [] fun v => v = .str (sealT t) := by
  refine scrc_Seal fun H hh => ?_
  dsimp only [ccrc_Seal]
  refine walk1 (k := ?_)
  repeat' first | refine And.intro ?_ ?_ | intro
  all_goals refine leaf ?_
  refine callE ((crc_prog t ht)) ?_
  refine walk1 (k := ?_)
  repeat' first | refine And.intro ?_ ?_ | intro
  all_goals refine leaf ?_
  rename_i q H' hh
  replace hh : Has H' [(q, .cells true ((fourW (crcW t)).flatMap byteC))] := hh
  refine wps_b2s hh (l := fourW (crcW t)) (by rfl) .here ?_
  refine walk1 (k := ?_)
  repeat' first | refine And.intro ?_ ?_ | intro
  all_goals refine leaf ?_
  refine wps_rd (v := .str (sealT t)) (catC (by show _ + 4 ≤ _; omega)) ?_
  refine walk1 (k := ?_)
  repeat' first | refine And.intro ?_ ?_ | intro
  all_goals refine leaf ?_
  exact doneR rfl
def openT (s : List UInt8) : Option (List UInt8) := if s.length < 4 then none else if sealT (s.take (s.length - 4)) = s then some (s.take (s.length - 4)) else none
theorem copen_prog (s : List UInt8) (hs : s.length ≤ 1000000) : CallsR Tryz.prog ncrc_Open [.str s] [] fun v => v = match openT s with | none => .tup [.str [], .bool false] | some t => .tup [.str t, .bool true] := by
  unfold openT
  by_cases h4 : s.length < 4
  · rw [if_pos h4]
    refine scrc_Open fun H hh => ?_
    dsimp only [ccrc_Open]
    refine walk (k := ?_)
    repeat' first | refine And.intro ?_ ?_ | intro
    all_goals refine leaf ?_
    · exact doneR rfl
    all_goals exact absurd h4 (by omega)
  · rw [if_neg h4]
    have h1 := seal_prog (s.take ((s.length : Int) - 4).toNat) (by rw [List.length_take]; omega)
    have he : ((s.length : Int) - 4).toNat = s.length - 4 := by omega
    rw [← he]
    refine scrc_Open fun H hh => ?_
    dsimp only [ccrc_Open]
    refine walk (k := ?_)
    repeat' first | refine And.intro ?_ ?_ | intro
    all_goals refine leaf ?_
    · exact absurd h4 (by omega)
    refine callE (h1) ?_
    refine walk (k := ?_)
    repeat' first | refine And.intro ?_ ?_ | intro
    all_goals refine leaf ?_
    · rename_i hne
      rw [if_neg hne]
      exact doneR rfl
    · rename_i heq
      rw [if_pos heq]
      exact doneR rfl
end Go.Proofs.YtkfhgpegnnokgaaGreatDoor
