/-
  Entries and records as bytes: the code.
-/
import Derived.Test.YtjgcgepfidcihaaGreatDoorPakA
import Derived.Test.YtjgcgepfidcihaaGreatDoorMayA
namespace Go.Proofs.YtjgcgepfidcihaaGreatDoor
open Go Go.CM
set_option maxRecDepth 100000
set_option maxHeartbeats 4000000

theorem numI_prog (p : Nat) (l : List UInt8) (L : List Ob) (z : Int) (h0 : 0 ≤ z) (h1 : z ≤ 4611686018427387904) (hL : PakO p l L) (hl : l.length ≤ 1000000) : CallsL Tryz.prog npack_Packer_Num [.ptr p 0, .int .i64 z] L fun v L' => v = .ptr p 0 ∧ PakO p (l ++ numL z.toNat) L' := by
  obtain ⟨n, rfl⟩ : ∃ n : Nat, z = n := ⟨z.toNat, by omega⟩
  exact num_prog p l L n (by omega) hL hl
def txtN (s : List UInt8) : List UInt8 := numL s.length ++ s
theorem textN_prog (p : Nat) (l s : List UInt8) (L : List Ob) (hL : PakO p l L) (hl : l.length + s.length ≤ 100000) : CallsL Tryz.prog npack_Packer_Text [.ptr p 0, .str s] L fun v L' => v = .ptr p 0 ∧ PakO p (l ++ txtN s) L' := by
  have h9 := numL_le (n := s.length) (by omega)
  have hne : numL s.length ≠ [] := by rw [numL]; exact fun h => by have := congrArg List.length h; rw [numB_len] at this; simp at this
  refine spack_Packer_Text fun H hh => ?_
  dsimp only [cpack_Packer_Text]
  refine walk1 (k := ?_)
  repeat' first | refine And.intro ?_ ?_ | intro
  all_goals refine leaf ?_
  refine callL ((num_prog p l L s.length (by omega) hL (by omega))) ?_
  rintro v L' H' ⟨rfl, h1⟩ hh
  refine walk1 (k := ?_)
  repeat' first | refine And.intro ?_ ?_ | intro
  all_goals refine leaf ?_
  refine callL ((raw_prog p (l ++ numL s.length) s L' (by simp [hne]) h1 (by simp; omega))) ?_
  rintro v L2 H' ⟨rfl, h2⟩ hh
  refine walk1 (k := ?_)
  repeat' first | refine And.intro ?_ ?_ | intro
  all_goals refine leaf ?_
  rw [List.append_assoc] at h2
  exact done ⟨rfl, h2⟩
theorem txtN_le {s : List UInt8} (h : s.length ≤ 100000) : (txtN s).length ≤ s.length + 9 := by
  have h9 := numL_le (n := s.length) (by omega)
  rw [txtN, List.length_append]; omega
def layH (e : Entry) : List UInt8 := numL e.tenant.toNat ++ txtN e.key ++ numL e.state.toNat ++ numL e.epoch.toNat ++ numL e.token.toNat ++ numL e.point.toNat ++ e.print ++ numL e.lease.toNat ++ numL e.expiry.toNat
def layT (e : Entry) : List UInt8 := if e.state = 1 then txtN e.method ++ txtN e.path ++ txtN e.body else if e.state = 2 then numL e.status.toNat ++ txtN e.text else []
def layL (e : Entry) : List UInt8 := layH e ++ layT e
structure LayOK (e : Entry) : Prop where
  tenant : 0 ≤ e.tenant ∧ e.tenant ≤ 1099511627776
  key : e.key.length ≤ 1000
  state : 0 ≤ e.state ∧ e.state ≤ 1099511627776
  epoch : 0 ≤ e.epoch ∧ e.epoch ≤ 1099511627776
  token : 0 ≤ e.token ∧ e.token ≤ 1099511627776
  point : 0 ≤ e.point ∧ e.point ≤ 1099511627776
  print : e.print.length ≤ 1000
  lease : 0 ≤ e.lease ∧ e.lease ≤ 1099511627776
  expiry : 0 ≤ e.expiry ∧ e.expiry ≤ 1099511627776
  run : e.state = 1 → e.method.length ≤ 1000 ∧ e.path.length ≤ 1000 ∧ e.body.length ≤ 1000
  fin : e.state = 2 → 0 ≤ e.status ∧ e.status ≤ 1099511627776 ∧ e.text.length ≤ 1000
theorem pathL_60 {p o : List UInt8} (h : pathL p = some o) : p.length ≤ 60 := by
  have hpl : pathL p = if p = [] ∨ 60 < p.length ∨ (p.getD 0 0).toNat ≠ 47 then none else match partsL [] (splitL p) with
    | none => none
    | some l => if 60 < (fullL (joinL l)).length then none else some (fullL (joinL l)) := rfl
  rw [hpl] at h
  split at h
  · cases h
  · omega
theorem may_lay {e : Entry} (h : mayP e) : LayOK e := by
  obtain ⟨⟨⟨n1, n2, n3⟩, h1, h2, h3, h4, h5, h6⟩, ht⟩ := h
  refine ⟨by omega, by have := n3.1.2; omega, by rcases ht with h | h | h <;> (have := h.1; omega), by omega, by omega, by omega, by omega, by omega, by omega, fun hs => ?_, fun hs => ?_⟩
  · rcases ht with h | h | h
    · have hk := h.2.2
      exact ⟨by have := hk.1.1.1.2; omega, by have := pathL_60 hk.2.1; omega, by have := hk.2.2; omega⟩
    · have := h.1; omega
    · have := h.1; omega
  · rcases ht with h | h | h
    · have := h.1; omega
    · have hk := h.2.2
      have := hk.1
      exact ⟨by omega, by omega, by have := hk.2; omega⟩
    · have := h.1; omega
theorem lay_prog (p : Nat) (l : List UInt8) (L : List Ob) (e : Entry) (hm : LayOK e) (hL : PakO p l L) (hl : l.length ≤ 1000) (hne : l ≠ []) : CallsL Tryz.prog nentry_lay [.ptr p 0, .agg e.enc] L fun _ L' => PakO p (l ++ layL e) L' := by
  have n1 := numL_le (n := e.tenant.toNat) (by have := hm.tenant; omega)
  have n2 := txtN_le (s := e.key) (by have := hm.key; omega)
  have n3 := numL_le (n := e.state.toNat) (by have := hm.state; omega)
  have n4 := numL_le (n := e.epoch.toNat) (by have := hm.epoch; omega)
  have n5 := numL_le (n := e.token.toNat) (by have := hm.token; omega)
  have n6 := numL_le (n := e.point.toNat) (by have := hm.point; omega)
  have n7 := numL_le (n := e.lease.toNat) (by have := hm.lease; omega)
  have n8 := numL_le (n := e.expiry.toNat) (by have := hm.expiry; omega)
  have b2 := hm.key
  have b7 := hm.print
  have hmt := hm.tenant
  have hms := hm.state
  have hme := hm.epoch
  have hmk := hm.token
  have hmp := hm.point
  have hml := hm.lease
  have hmx := hm.expiry
  have m1 : (l ++ numL e.tenant.toNat).length ≤ 1100 := by simp only [List.length_append]; omega
  have m2 : (l ++ numL e.tenant.toNat ++ txtN e.key).length ≤ 2300 := by simp only [List.length_append] at m1 ⊢; omega
  have m3 : (l ++ numL e.tenant.toNat ++ txtN e.key ++ numL e.state.toNat).length ≤ 2400 := by rw [List.length_append]; omega
  have m4 : (l ++ numL e.tenant.toNat ++ txtN e.key ++ numL e.state.toNat ++ numL e.epoch.toNat).length ≤ 2500 := by rw [List.length_append]; omega
  have m5 : (l ++ numL e.tenant.toNat ++ txtN e.key ++ numL e.state.toNat ++ numL e.epoch.toNat ++ numL e.token.toNat).length ≤ 2600 := by rw [List.length_append]; omega
  have m6 : (l ++ numL e.tenant.toNat ++ txtN e.key ++ numL e.state.toNat ++ numL e.epoch.toNat ++ numL e.token.toNat ++ numL e.point.toNat).length ≤ 2700 := by rw [List.length_append]; omega
  have m7 : (l ++ numL e.tenant.toNat ++ txtN e.key ++ numL e.state.toNat ++ numL e.epoch.toNat ++ numL e.token.toNat ++ numL e.point.toNat ++ e.print).length ≤ 3800 := by rw [List.length_append]; omega
  have m8 : (l ++ numL e.tenant.toNat ++ txtN e.key ++ numL e.state.toNat ++ numL e.epoch.toNat ++ numL e.token.toNat ++ numL e.point.toNat ++ e.print ++ numL e.lease.toNat).length ≤ 3900 := by rw [List.length_append]; omega
  have m9 : (l ++ numL e.tenant.toNat ++ txtN e.key ++ numL e.state.toNat ++ numL e.epoch.toNat ++ numL e.token.toNat ++ numL e.point.toNat ++ e.print ++ numL e.lease.toNat ++ numL e.expiry.toNat).length ≤ 4000 := by rw [List.length_append]; omega
  have hH : l ++ layL e = (l ++ numL e.tenant.toNat ++ txtN e.key ++ numL e.state.toNat ++ numL e.epoch.toNat ++ numL e.token.toNat ++ numL e.point.toNat ++ e.print ++ numL e.lease.toNat ++ numL e.expiry.toNat) ++ layT e := by
    rw [layL, layH]; simp only [List.append_assoc]
  have hne6 : l ++ numL e.tenant.toNat ++ txtN e.key ++ numL e.state.toNat ++ numL e.epoch.toNat ++ numL e.token.toNat ++ numL e.point.toNat ≠ [] := by simp [hne]
  rw [hH]
  unfold Entry.enc
  refine sentry_lay fun H hh => ?_
  dsimp only [centry_lay]
  refine walk1 (k := ?_)
  repeat' first | refine And.intro ?_ ?_ | intro
  all_goals refine leaf ?_
  refine callK (numI_prog p l L e.tenant hmt.1 (by omega) hL (by omega)) ?_
  rintro v L1 H' ⟨rfl, h1⟩ hh
  clear hL
  refine callK (textN_prog p _ e.key L1 h1 (by omega)) ?_
  rintro v L2 H' ⟨rfl, h2⟩ hh
  clear h1
  refine callK (numI_prog p _ L2 e.state hms.1 (by omega) h2 (by omega)) ?_
  rintro v L3 H' ⟨rfl, h3⟩ hh
  clear h2
  refine callK (numI_prog p _ L3 e.epoch hme.1 (by omega) h3 (by omega)) ?_
  rintro v L4 H' ⟨rfl, h4⟩ hh
  clear h3
  refine callK (numI_prog p _ L4 e.token hmk.1 (by omega) h4 (by omega)) ?_
  rintro v L5 H' ⟨rfl, h5⟩ hh
  clear h4
  refine callK (numI_prog p _ L5 e.point hmp.1 (by omega) h5 (by omega)) ?_
  rintro v L6 H' ⟨rfl, h6⟩ hh
  clear h5
  refine callK (raw_prog p _ e.print L6 hne6 h6 (by omega)) ?_
  rintro v L7 H' ⟨rfl, h7⟩ hh
  clear h6
  refine callK (numI_prog p _ L7 e.lease hml.1 (by omega) h7 (by omega)) ?_
  rintro v L8 H' ⟨rfl, h8⟩ hh
  clear h7
  refine callL (numI_prog p _ L8 e.expiry hmx.1 (by omega) h8 (by omega)) ?_
  rintro v L9 H' ⟨rfl, h9⟩ hh
  clear h8
  generalize l ++ numL e.tenant.toNat ++ txtN e.key ++ numL e.state.toNat ++ numL e.epoch.toNat ++ numL e.token.toNat ++ numL e.point.toNat ++ e.print ++ numL e.lease.toNat ++ numL e.expiry.toNat = M at *
  by_cases s1 : e.state = 1
  · obtain ⟨r1, r2, r3⟩ := hm.run s1
    have t1 := txtN_le (s := e.method) (by omega)
    have t2 := txtN_le (s := e.path) (by omega)
    have hT : layT e = txtN e.method ++ txtN e.path ++ txtN e.body := by rw [layT, if_pos s1]
    refine walk1 (k := ?_)
    repeat' first | refine And.intro ?_ ?_ | intro
    all_goals refine leaf ?_
    refine c_cond_t (by show V.bool (_ == _) = _; rw [beq_iff_eq.2 s1]) ?_
    refine walk1 (k := ?_)
    repeat' first | refine And.intro ?_ ?_ | intro
    all_goals refine leaf ?_
    refine callK (textN_prog p _ e.method L9 h9 (by omega)) ?_
    rintro v L10 H' ⟨rfl, h10⟩ hh
    refine callK (textN_prog p _ e.path L10 h10 (by rw [List.length_append]; omega)) ?_
    rintro v L11 H' ⟨rfl, h11⟩ hh
    refine callL (textN_prog p _ e.body L11 h11 (by rw [List.length_append, List.length_append]; omega)) ?_
    rintro v L12 H' ⟨rfl, h12⟩ hh
    refine walk1 (k := ?_)
    repeat' first | refine And.intro ?_ ?_ | intro
    all_goals refine leaf ?_
    rw [hT, ← List.append_assoc, ← List.append_assoc]
    exact done h12
  · by_cases s2 : e.state = 2
    · obtain ⟨r1, r2, r3⟩ := hm.fin s2
      have t1 := numL_le (n := e.status.toNat) (by omega)
      have hT : layT e = numL e.status.toNat ++ txtN e.text := by rw [layT, if_neg s1, if_pos s2]
      refine walk1 (k := ?_)
      repeat' first | refine And.intro ?_ ?_ | intro
      all_goals refine leaf ?_
      refine c_cond_f (by show V.bool (_ == _) = _; rw [beq_false_of_ne s1]) ?_
      refine walk1 (k := ?_)
      repeat' first | refine And.intro ?_ ?_ | intro
      all_goals refine leaf ?_
      refine c_cond_t (by show V.bool (_ == _) = _; rw [beq_iff_eq.2 s2]) ?_
      refine walk1 (k := ?_)
      repeat' first | refine And.intro ?_ ?_ | intro
      all_goals refine leaf ?_
      refine callK (numI_prog p _ L9 e.status r1 (by omega) h9 (by omega)) ?_
      rintro v L10 H' ⟨rfl, h10⟩ hh
      refine callL (textN_prog p _ e.text L10 h10 (by rw [List.length_append]; omega)) ?_
      rintro v L11 H' ⟨rfl, h11⟩ hh
      refine walk1 (k := ?_)
      repeat' first | refine And.intro ?_ ?_ | intro
      all_goals refine leaf ?_
      rw [hT, ← List.append_assoc]
      exact done h11
    · have hT : layT e = [] := by rw [layT, if_neg s1, if_neg s2]
      refine walk1 (k := ?_)
      repeat' first | refine And.intro ?_ ?_ | intro
      all_goals refine leaf ?_
      refine c_cond_f (by show V.bool (_ == _) = _; rw [beq_false_of_ne s1]) ?_
      refine walk1 (k := ?_)
      repeat' first | refine And.intro ?_ ?_ | intro
      all_goals refine leaf ?_
      refine c_cond_f (by show V.bool (_ == _) = _; rw [beq_false_of_ne s2]) ?_
      refine walk1 (k := ?_)
      repeat' first | refine And.intro ?_ ?_ | intro
      all_goals refine leaf ?_
      rw [hT, List.append_nil]
      exact done h9
end Go.Proofs.YtjgcgepfidcihaaGreatDoor
