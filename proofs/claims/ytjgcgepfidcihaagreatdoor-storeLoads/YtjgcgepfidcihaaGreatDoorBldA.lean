/-
  Builders of texts.
-/
import Derived.Test.YtjgcgepfidcihaaGreatDoorC0
import Derived.Test.YtjgcgepfidcihaaGreatDoorC1
import Derived.Test.YtjgcgepfidcihaaGreatDoorC2
import Derived.Test.YtjgcgepfidcihaaGreatDoorCmG
namespace Go.Proofs.YtjgcgepfidcihaaGreatDoor
open Go Go.CM
set_option maxRecDepth 100000
set_option maxHeartbeats 4000000

theorem bytes_len (l : List UInt8) : (l.flatMap byteC).length = l.length := by rw [rows_length (sz := 1) (fun _ => rfl), Nat.mul_one]
abbrev BldV (b : Nat) : V := .ty tstrings_Builder 2 b (.ptr b 0)
def BldO (b : Nat) (l : List UInt8) (L : List Ob) : Prop :=
  (l = [] ∧ ∃ p, (p = V.nilp ∨ p = BldV b) ∧ L = [(b, .cells true [p, .nils])]) ∨
  (l ≠ [] ∧ ∃ r k, L = [(b, .cells true [BldV b, .ty tuint8 k r (.slice r 0 l.length 1)]), (r, .cells true (l.flatMap byteC))])
theorem noescape_at {H : Heap} (v : V) : ∀ (ι : Pl) (w : World) (us : List Value), Rel ι H w → VRs ι w [v] us → ∃ u, (callFunc nabi_NoEscape ⟨us⟩).run Tryz.prog w = .ok (.value u) w ∧ VR ι w v u := by
  intro ι w us _ hv
  cases hv with
  | cons _ u _ us hv hv2 =>
    cases hv2
    refine ⟨u, ?_, hv⟩
    rw [run_callFunc_extern hfabi_NoEscape (by kernel_rfl) (by kernel_rfl) (by kernel_rfl) (by kernel_rfl)]
    rw [Go.Lib.run_noEscape]
    rfl
theorem beq_refl' (b : Nat) : Nat.beq b b = true := Nat.beq_refl b
theorem copyCheck_prog (b : Nat) (p v : V) (hp : p = .nilp ∨ p = BldV b) : CallsL Tryz.prog nstrings_Builder_copyCheck [BldV b] [(b, .cells true [p, v])] fun u L' => u = .tup [] ∧ L' = [(b, .cells true [BldV b, v])] := by
  rcases hp with rfl | rfl
  · skip
    refine sstrings_Builder_copyCheck fun H hh => ?_
    dsimp only [cstrings_Builder_copyCheck]
    refine walk (k := ?_)
    repeat' first | refine And.intro ?_ ?_ | intro
    all_goals refine leaf ?_
    refine wps_rd (v := BldV b) (by show (bif Nat.beq b b && true && true then some (BldV b) else none) = _; rw [beq_refl']; rfl) ?_
    refine wps_ext rfl (noescape_at (BldV b)) ?_
    refine wps_rd (v := BldV b) (by show (bif Nat.beq b b && true && true && true && true then some (BldV b) else none) = _; rw [beq_refl']; rfl) ?_
    refine walk1 (k := ?_)
    repeat' first | refine And.intro ?_ ?_ | intro
    all_goals refine leaf ?_
    exact done ⟨rfl, rfl⟩
  · skip
    refine sstrings_Builder_copyCheck fun H hh => ?_
    dsimp only [cstrings_Builder_copyCheck]
    refine walk (k := ?_)
    repeat' first | refine And.intro ?_ ?_ | intro
    all_goals refine leaf ?_
    refine wps_ne (b := true) (by show (bif Nat.beq b b && true then some true else none) = _; rw [beq_refl']; rfl) ?_
    refine walk1 (k := ?_)
    repeat' first | refine And.intro ?_ ?_ | intro
    all_goals refine leaf ?_
    exact done ⟨rfl, rfl⟩
theorem wps_bapp {env : Env} {H : Heap} {L : List Ob} {K : Env → Heap → Prop} {d : Option Nat} {is : List I} (hh : Has H L) {y a : X} {e r k len : Nat} {cs vs : List V} {m : Nat} {L' : Nat → List Ob} (ha : a.ev env = .ty e k r (.slice r 0 len 1)) (hs : srcCells H 1 (y.ev env) = some (m, vs)) (hm : m ≠ 0) (hc : cs.length = len) (hne : cs ≠ [])
    (hu : ∀ id', Upd (r, .cells true cs) [(id', .cells true (cs ++ vs))] L (L' id')) (hb : len + m ≤ 140737488355328) (k2 : ∀ id' H', Has H' (L' id') → CM.wpOps Tryz.prog is (env.put d (.ty e 0 id' (.slice id' 0 (len + m) 1))) H' K) : CM.wpOps Tryz.prog (⟨d, .ef (.appT e 1 1 a y), none, .no⟩ :: is) env H K := by
  have h0 : r ≠ 0 := hh.ne0 (hu 0).at hne
  refine .inr ⟨m, vs, hs, hm, .inr ⟨k, r, len, cs, ha, hh.getc (hu 0).at hne, by omega, by omega, fun id' h0' hid => ⟨trivial, ?_⟩⟩⟩
  have := hh.move h0 h0' (hu id') hid
  rw [List.take_of_length_le (by omega)]
  exact k2 id' _ this
theorem wps_bapp0 {env : Env} {H : Heap} {L : List Ob} {K : Env → Heap → Prop} {d : Option Nat} {is : List I} {x : Kx} (hh : Has H L) {y a : X} {e : Nat} {vs : List V} {m : Nat} (ha : a.ev env = .nils) (hs : srcCells H 1 (y.ev env) = some (m, vs)) (hm : m ≠ 0)
    (hb : m ≤ 140737488355328) (k2 : ∀ id' H', Has H' ((id', .cells true vs) :: L) → CM.wpOps Tryz.prog is (env.put d (.ty e 0 id' (.slice id' 0 m 1))) H' K) : CM.wpOps Tryz.prog (⟨d, .ef (.appT e 1 1 a y), none, x⟩ :: is) env H K :=
  .inr ⟨m, vs, hs, hm, .inl ⟨ha, by omega, fun id' h0' hid => ⟨Kx.le (Heap.le_set _ hid), k2 id' _ (hh.new h0' hid)⟩⟩⟩
theorem byte_src {H : Heap} {L : List Ob} (hh : Has H L) {t : Nat} (c : UInt8) (hi : At (t, .cells true [.int .u8 c.toNat]) L) : srcCells H 1 (.slice t 0 1 1) = some (1, [.int .u8 c.toNat]) := src_slice (esz := 0) hh hi rfl
theorem wb_prog (b : Nat) (l : List UInt8) (L : List Ob) (c : UInt8) (hL : BldO b l L) (hl : l.length ≤ 1000000) : CallsL Tryz.prog nstrings_Builder_WriteByte [BldV b, .int .u8 c.toNat] L fun v L' => v = .nili ∧ BldO b (l ++ [c]) L' := by
  rcases hL with ⟨rfl, p, hp, rfl⟩ | ⟨hne, r, k, rfl⟩
  · skip
    refine sstrings_Builder_WriteByte fun H hh => ?_
    dsimp only [cstrings_Builder_WriteByte]
    refine walk1 (k := ?_)
    repeat' first | refine And.intro ?_ ?_ | intro
    all_goals refine leaf ?_
    refine callL (copyCheck_prog b p .nils hp) ?_
    rintro v L' H' ⟨rfl, rfl⟩ hh
    refine walk2 (k := ?_)
    repeat' first | refine And.intro ?_ ?_ | intro
    all_goals refine leaf ?_
    rename_i t _ hh
    refine wps_bapp0 hh rfl (byte_src hh c .here) (by decide) (by decide) fun r H' hh => ?_
    refine walk1 (k := ?_)
    repeat' first | refine And.intro ?_ ?_ | intro
    all_goals refine leaf ?_
    exact done ⟨rfl, .inr ⟨by simp, r, 0, rfl⟩⟩
  · have hlb := bytes_len l
    have hcn : l.flatMap byteC ≠ [] := fun e => hne (List.length_eq_zero_iff.1 (by rw [← hlb, e]; rfl))
    refine sstrings_Builder_WriteByte fun H hh => ?_
    dsimp only [cstrings_Builder_WriteByte]
    refine walk1 (k := ?_)
    repeat' first | refine And.intro ?_ ?_ | intro
    all_goals refine leaf ?_
    refine callL (copyCheck_prog b (BldV b) (.ty tuint8 k r (.slice r 0 l.length 1)) (.inr rfl)) ?_
    rintro v L' H' ⟨rfl, rfl⟩ hh
    refine walk2 (k := ?_)
    repeat' first | refine And.intro ?_ ?_ | intro
    all_goals refine leaf ?_
    rename_i t _ hh
    refine wps_bapp hh (L' := fun id' => [(t, .cells true [.int .u8 c.toNat]), (b, .cells true [BldV b, .ty tuint8 k r (.slice r 0 l.length 1)]), (id', .cells true (l.flatMap byteC ++ [.int .u8 c.toNat]))]) rfl (byte_src hh c .here) (by decide) hlb hcn (fun id' => .there (.there .here1)) (by omega) fun r2 H' hh => ?_
    rw [show l.flatMap byteC ++ [.int .u8 c.toNat] = (l ++ [c]).flatMap byteC by rw [List.flatMap_append]; rfl] at hh
    rw [show l.length + 1 = (l ++ [c]).length by simp]
    refine walk1 (k := ?_)
    repeat' first | refine And.intro ?_ ?_ | intro
    all_goals refine leaf ?_
    exact done ⟨rfl, .inr ⟨by simp, r2, 0, rfl⟩⟩
theorem Has.del' {H : Heap} {L L' : List Ob} (h : Has H L) {id : Nat} {o : HObj} (h0 : id ≠ 0) (hu : Upd (id, o) [] L L') : Has (H.del id) L' := by
  obtain ⟨R, h1, h2⟩ := hu.front h
  have hne := h1.head_ne h0
  exact Has.perm (L := R) (h1.tail.heap fun y hy hy0 => Heap.del_ne _ (hne y hy hy0)) (by simpa using h2.symm)
section
variable {env : Env} {H : Heap} {L : List Ob} {K : Env → Heap → Prop} {d : Option Nat} {is : List I}
theorem wps_ustr0 {y a : X} {e : Nat} {x : Kx} (ha : a.ev env = .nilp) (hy : y.ev env = .int .i64 0) (k : CM.wpOps Tryz.prog is (env.put d (.str [])) H K) : CM.wpOps Tryz.prog (⟨d, .ef (.ustr e a y), none, x⟩ :: is) env H K :=
  .inl ⟨ha, hy, Kx.refl, k⟩
theorem wps_ustr (hh : Has H L) {y a : X} {e k id : Nat} {l : List UInt8} {L' : List Ob} (ha : a.ev env = .ty e k id (.ptr id 0)) (hy : y.ev env = .int .i64 (l.length : Nat)) (h0 : l ≠ []) (hl : l.length ≤ 9223372036854775807) (hu : Upd (id, .cells true (l.flatMap byteC)) [] L L')
    (k2 : ∀ H', Has H' L' → CM.wpOps Tryz.prog is (env.put d (.str l)) H' K) : CM.wpOps Tryz.prog (⟨d, .ef (.ustr e a y), none, .no⟩ :: is) env H K := by
  have hne : l.flatMap byteC ≠ [] := fun e => h0 (List.length_eq_zero_iff.1 (by rw [← bytes_len l, e]; rfl))
  have hid : id ≠ 0 := hh.ne0 hu.at hne
  exact .inr ⟨k, id, [], l, ha, hy, h0, hl, by rw [List.append_nil]; exact hh.getc hu.at hne, trivial, k2 _ (Has.del' hh hid hu)⟩
end
theorem str_prog (b : Nat) (l : List UInt8) (L : List Ob) (hL : BldO b l L) (hl : l.length ≤ 1000000) : CallsL Tryz.prog nstrings_Builder_String [BldV b] L fun v L' => v = .str l ∧ L' = [] := by
  rcases hL with ⟨rfl, p, hp, rfl⟩ | ⟨hne, r, k, rfl⟩
  · skip
    refine sstrings_Builder_String fun H hh => ?_
    dsimp only [cstrings_Builder_String]
    refine walk1 (k := ?_)
    repeat' first | refine And.intro ?_ ?_ | intro
    all_goals refine leaf ?_
    refine wps_ustr0 rfl rfl ?_
    refine walk1 (k := ?_)
    repeat' first | refine And.intro ?_ ?_ | intro
    all_goals refine leaf ?_
    exact done ⟨rfl, rfl⟩
  · skip
    refine sstrings_Builder_String fun H hh => ?_
    dsimp only [cstrings_Builder_String]
    refine walk1 (k := ?_)
    repeat' first | refine And.intro ?_ ?_ | intro
    all_goals refine leaf ?_
    refine wps_rd (v := .ty tuint8 k r (.ptr r 0)) (by
      show (bif true && Nat.beq r r && true && !(Nat.beq l.length 0) && true then some (V.ty tuint8 k r (.ptr r 0)) else none) = _
      rw [beq_refl']
      have : Nat.beq l.length 0 = false := Bool.eq_false_iff.2 fun e => hne (List.length_eq_zero_iff.1 (Nat.eq_of_beq_eq_true e))
      rw [this]; rfl) ?_
    refine walk1 (k := ?_)
    repeat' first | refine And.intro ?_ ?_ | intro
    all_goals refine leaf ?_
    refine wps_ustr hh (L' := [(b, .cells true [BldV b, .ty tuint8 k r (.slice r 0 l.length 1)])]) rfl rfl hne (by omega) (by exact .there .here) fun H' hh => ?_
    refine walk1 (k := ?_)
    repeat' first | refine And.intro ?_ ?_ | intro
    all_goals refine leaf ?_
    exact done ⟨rfl, rfl⟩
end Go.Proofs.YtjgcgepfidcihaaGreatDoor
