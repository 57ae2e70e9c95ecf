/-
  Records as bytes: the code.
-/
import Derived.Test.YtjgcgepfidcihaaGreatDoorLayA
import Derived.Test.YtjgcgepfidcihaaGreatDoorMayB
namespace Go.Proofs.YtjgcgepfidcihaaGreatDoor
open Go Go.CM
set_option maxRecDepth 100000
set_option maxHeartbeats 4000000

def dropE' (n : List UInt8) (t : Int) : Entry := { Entry.zero with tenant := t, key := n }
def recP (r : Rec) : Prop := r.kind = 1 ∧ mayP r.e ∨ r.kind = 2 ∧ namP r.e ∧ r.e = dropE' r.e.key r.e.tenant
instance (r : Rec) : Decidable (recP r) := inferInstanceAs (Decidable (_ ∨ _))
def recB' (r : Rec) : List UInt8 := numL 1 ++ numL r.kind.toNat ++ if r.kind = 1 then layL r.e else numL r.e.tenant.toNat ++ txtN r.e.key
def recV (r : Rec) : V := if recP r then .tup [.str (recB' r), .int .i64 0] else .tup [.str [], .int .i64 1]
theorem numbad_prog (p : Nat) (c : V) (z : Int) (hz : z < 0 ∨ 4611686018427387904 < z) : CallsL Tryz.prog npack_Packer_Num [.ptr p 0, .int .i64 z] [(p, .cells true [c, .bool false])] fun v L' => v = .ptr p 0 ∧ L' = [(p, .cells true [c, .bool true])] := by
  refine spack_Packer_Num fun H hh => ?_
  dsimp only [cpack_Packer_Num]
  refine walk (k := ?_)
  repeat' first | refine And.intro ?_ ?_ | intro
  all_goals refine leaf ?_
  · exact done ⟨rfl, rfl⟩
  · exact done ⟨rfl, rfl⟩
  · exfalso; omega
theorem record_prog (r : Rec) (hl : r.e.method.length + r.e.path.length + r.e.body.length ≤ 9000000000000000000) : CallsR Tryz.prog nentry_Record [.agg r.enc] [] fun v => v = recV r := by
  have hm := may_prog r.e hl
  have hn := named_prog r.e
  have hlay := fun p l L => lay_prog p l L r.e
  have hee : r.e.enc = [.int .i64 r.e.tenant, .str r.e.key, .int .i64 r.e.state, .int .i64 r.e.epoch, .int .i64 r.e.token, .int .i64 r.e.point, .str r.e.print, .int .i64 r.e.lease, .int .i64 r.e.expiry, .int .i64 r.e.status, .str r.e.text, .str r.e.method, .str r.e.path, .str r.e.body] := rfl
  unfold Rec.enc
  rw [hee] at hm hn hlay ⊢
  have hbad : (r.kind ≠ 1 ∧ r.kind ≠ 2) → recV r = .tup [.str [], .int .i64 1] := fun h => if_neg fun k => k.elim (fun k => h.1 k.1) (fun k => h.2 k.1)
  refine sentry_Record fun H hh => ?_
  dsimp only [centry_Record]
  refine walk1 (k := ?_)
  repeat' first | refine And.intro ?_ ?_ | intro
  all_goals refine leaf ?_
  rename_i q hq0 rb hq1 hh
  refine callK (num_prog rb [] _ 1 (by decide) (.inl ⟨rfl, rfl⟩) (by simp)) ?_
  rintro v L1 H' ⟨rfl, h1⟩ hh
  have hne1 : ([] ++ numL 1 : List UInt8) ≠ [] := by rw [numL_short (by decide)]; simp
  rw [List.nil_append] at h1 hne1
  have hl1 : (numL 1).length ≤ 9 := numL_le (by decide)
  by_cases hk : 0 ≤ r.kind ∧ r.kind ≤ 4611686018427387904
  · skip
    refine callL (numI_prog rb _ L1 r.kind hk.1 hk.2 h1 (by omega)) ?_
    rintro v L2 H' ⟨rfl, h2⟩ hh
    have hl2 := numL_le (n := r.kind.toNat) (by omega)
    have hne2 : numL 1 ++ numL r.kind.toNat ≠ [] := by simp [hne1]
    have hl12 : (numL 1 ++ numL r.kind.toNat).length ≤ 18 := by rw [List.length_append]; omega
    clear h1
    refine walk1 (k := ?_)
    repeat' first | refine And.intro ?_ ?_ | intro
    all_goals refine leaf ?_
    by_cases k1 : r.kind = 1
    · refine wps_slot (s := 16) (v := .bool true) (by show V.bool (_ == _) = _; rw [beq_iff_eq.2 k1]) ?_
      refine walk1 (k := ?_)
      repeat' first | refine And.intro ?_ ?_ | intro
      all_goals refine leaf ?_
      by_cases mp : mayP r.e
      · rw [decide_eq_true mp] at hm
        have hv : recV r = .tup [.str (numL 1 ++ numL r.kind.toNat ++ layL r.e), .int .i64 0] := by rw [recV, if_pos (.inl ⟨k1, mp⟩), recB', if_pos k1]
        generalize numL 1 ++ numL r.kind.toNat = B at *
        refine callE (hm) ?_
        refine walk1 (k := ?_)
        repeat' first | refine And.intro ?_ ?_ | intro
        all_goals refine leaf ?_
        refine callL (hlay rb B L2 (may_lay mp) h2 (by omega) hne2) ?_
        rintro v L3 H' h3 hh
        have hs := pstring_prog rb _ L3 h3
        refine walk1 (k := ?_)
        repeat' first | refine And.intro ?_ ?_ | intro
        all_goals refine leaf ?_
        refine callE (hs) ?_
        refine walk1 (k := ?_)
        repeat' first | refine And.intro ?_ ?_ | intro
        all_goals refine leaf ?_
        exact doneR hv.symm
      · rw [decide_eq_false mp] at hm
        have hv : recV r = .tup [.str [], .int .i64 1] := if_neg fun k => k.elim (fun k => mp k.2) (fun k => by have := k.1; omega)
        refine callE (hm) ?_
        refine walk1 (k := ?_)
        repeat' first | refine And.intro ?_ ?_ | intro
        all_goals refine leaf ?_
        refine wps_slot (s := 26) (v := .bool false) (by show V.bool (_ == _) = _; rw [k1]; rfl) ?_
        refine walk1 (k := ?_)
        repeat' first | refine And.intro ?_ ?_ | intro
        all_goals refine leaf ?_
        exact doneR hv.symm
    · refine wps_slot (s := 16) (v := .bool false) (by show V.bool (_ == _) = _; rw [beq_false_of_ne k1]) ?_
      refine walk1 (k := ?_)
      repeat' first | refine And.intro ?_ ?_ | intro
      all_goals refine leaf ?_
      by_cases k2 : r.kind = 2
      · refine wps_slot (s := 26) (v := .bool true) (by show V.bool (_ == _) = _; rw [beq_iff_eq.2 k2]) ?_
        refine walk1 (k := ?_)
        repeat' first | refine And.intro ?_ ?_ | intro
        all_goals refine leaf ?_
        by_cases np : namP r.e
        · rw [decide_eq_true np] at hn
          refine callE (hn) ?_
          refine walk1 (k := ?_)
          repeat' first | refine And.intro ?_ ?_ | intro
          all_goals refine leaf ?_
          by_cases eq : r.e = dropE' r.e.key r.e.tenant
          · have hv : recV r = .tup [.str (numL 1 ++ numL r.kind.toNat ++ numL r.e.tenant.toNat ++ txtN r.e.key), .int .i64 0] := by rw [recV, if_pos (.inr ⟨k2, np, eq⟩), recB', if_neg k1]; simp only [List.append_assoc]
            refine c_cond_t (by show V.bool (entB r.e (dropE' r.e.key r.e.tenant)) = _; rw [entB_eq, decide_eq_true eq]) ?_
            generalize numL 1 ++ numL r.kind.toNat = B at *
            have ht9 := numL_le (n := r.e.tenant.toNat) (by have := np.2.1; omega)
            have hk24 := np.2.2.1.2
            refine walk1 (k := ?_)
            repeat' first | refine And.intro ?_ ?_ | intro
            all_goals refine leaf ?_
            refine callK (numI_prog rb B L2 r.e.tenant np.1 (by have := np.2.1; omega) h2 (by omega)) ?_
            rintro v L3 H' ⟨rfl, h3⟩ hh
            refine callL (textN_prog rb _ r.e.key L3 h3 (by rw [List.length_append]; omega)) ?_
            rintro v L4 H' ⟨rfl, h4⟩ hh
            have hs := pstring_prog rb _ L4 h4
            refine walk1 (k := ?_)
            repeat' first | refine And.intro ?_ ?_ | intro
            all_goals refine leaf ?_
            refine callE (hs) ?_
            refine walk1 (k := ?_)
            repeat' first | refine And.intro ?_ ?_ | intro
            all_goals refine leaf ?_
            exact doneR hv.symm
          · have hv : recV r = .tup [.str [], .int .i64 1] := if_neg fun k => k.elim (fun k => k1 k.1) (fun k => eq k.2.2)
            refine c_cond_f (by show V.bool (entB r.e (dropE' r.e.key r.e.tenant)) = _; rw [entB_eq, decide_eq_false eq]) ?_
            refine walk1 (k := ?_)
            repeat' first | refine And.intro ?_ ?_ | intro
            all_goals refine leaf ?_
            exact doneR hv.symm
        · rw [decide_eq_false np] at hn
          have hv : recV r = .tup [.str [], .int .i64 1] := if_neg fun k => k.elim (fun k => k1 k.1) (fun k => np k.2.1)
          refine callE (hn) ?_
          refine walk1 (k := ?_)
          repeat' first | refine And.intro ?_ ?_ | intro
          all_goals refine leaf ?_
          exact doneR hv.symm
      · refine wps_slot (s := 26) (v := .bool false) (by show V.bool (_ == _) = _; rw [beq_false_of_ne k2]) ?_
        refine walk1 (k := ?_)
        repeat' first | refine And.intro ?_ ?_ | intro
        all_goals refine leaf ?_
        exact doneR (hbad ⟨k1, k2⟩).symm
  · have k1 : r.kind ≠ 1 := by omega
    have k2 : r.kind ≠ 2 := by omega
    rcases h1 with ⟨h, _⟩ | ⟨_, s, rfl⟩
    · exact absurd h hne1
    refine callL (numbad_prog rb _ r.kind (by omega)) ?_
    rintro v L2 H' ⟨rfl, rfl⟩ hh
    refine walk1 (k := ?_)
    repeat' first | refine And.intro ?_ ?_ | intro
    all_goals refine leaf ?_
    refine wps_slot (s := 16) (v := .bool false) (by show V.bool (_ == _) = _; rw [beq_false_of_ne k1]) ?_
    refine walk1 (k := ?_)
    repeat' first | refine And.intro ?_ ?_ | intro
    all_goals refine leaf ?_
    refine wps_slot (s := 26) (v := .bool false) (by show V.bool (_ == _) = _; rw [beq_false_of_ne k2]) ?_
    refine walk1 (k := ?_)
    repeat' first | refine And.intro ?_ ?_ | intro
    all_goals refine leaf ?_
    exact doneR (hbad ⟨k1, k2⟩).symm
end Go.Proofs.YtjgcgepfidcihaaGreatDoor
