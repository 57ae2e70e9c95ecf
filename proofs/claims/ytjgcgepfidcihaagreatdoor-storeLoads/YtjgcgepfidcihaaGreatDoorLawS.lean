/-
  Texts joined: The store's law: small records; it is awake. The document's list of entries: what it has of a name.
-/
import Derived.Test.YtjgcgepfidcihaaGreatDoorStoC
import Derived.Test.YtjgcgepfidcihaaGreatDoorBaseA
namespace Go.Proofs.YtjgcgepfidcihaaGreatDoor
open Go Go.CM
set_option maxRecDepth 100000
set_option maxHeartbeats 4000000

abbrev smlR (r : Rec) : Prop := r.e.key.length ≤ 100 ∧ r.e.print.length ≤ 100 ∧ r.e.text.length ≤ 100 ∧ r.e.method.length ≤ 100 ∧ r.e.path.length ≤ 100 ∧ r.e.body.length ≤ 100
theorem small18_prog (s : Nat) (b : Bool) (l : List Rec) (most : Nat) (hm : most ≤ 1000) : CallsR Tryz.prog nlaw18_Small [.slice s 0 l.length 15, .int .i64 (most : Nat)] [RL s b l] fun v => ∃ c : Bool, v = .bool c ∧ (c = true → l.length ≤ most ∧ ∀ r ∈ l, smlR r) := by
  refine slaw18_Small fun H hh => ?_
  dsimp only [claw18_Small]
  refine walk1 (k := ?_)
  repeat' first | refine And.intro ?_ ?_ | intro
  all_goals refine leaf ?_
  by_cases h : l.length ≤ most
  · refine c_cond_f (by show V.bool _ = _; simp; omega) ?_
    refine walk1 (k := ?_)
    repeat' first | refine And.intro ?_ ?_ | intro
    all_goals refine leaf ?_
    refine loopN [12, 13, 14] l.length (fun i vs L => (∀ r ∈ l.take i, smlR r) ∧ vs = [.slice s 0 l.length 15, .int .i64 l.length, .int .i64 i] ∧ L = [RL s b l]) (Nx.here ⟨by simp, rfl, rfl⟩) ?_
    clear hh
    rintro i _ _ e H hi ⟨hall, rfl, rfl⟩ hh
    simp only [puts]
    by_cases hn : i < l.length
    · skip
      refine walk1 (k := ?_)
      repeat' first | refine And.intro ?_ ?_ | intro
      all_goals refine leaf ?_
      refine c_cond_t (by show V.bool _ = _; simp; omega) ?_
      have hx : smlR (nth l i) → ∀ r ∈ l.take (i + 1), smlR r := fun h r hr => by
        rw [take_getD hn] at hr
        rcases List.mem_append.1 hr with hr | hr
        · exact hall r hr
        · rw [List.mem_singleton] at hr; subst hr; exact h
      refine walk (k := ?_)
      repeat' first | refine And.intro ?_ ?_ | intro
      all_goals refine leaf ?_
      all_goals first
        | exact doneR ⟨false, rfl, fun h => by cases h⟩
        | exact Nx.next hn ⟨hx (by refine ⟨?_, ?_, ?_, ?_, ?_, ?_⟩ <;> omega), rfl, rfl⟩
    · skip
      refine walk1 (k := ?_)
      repeat' first | refine And.intro ?_ ?_ | intro
      all_goals refine leaf ?_
      refine c_cond_f (by show V.bool _ = _; simp; omega) ?_
      refine walk1 (k := ?_)
      repeat' first | refine And.intro ?_ ?_ | intro
      all_goals refine leaf ?_
      rw [List.take_of_length_le (by omega)] at hall
      exact doneR ⟨true, rfl, fun _ => ⟨h, hall⟩⟩
  · refine c_cond_t (by show V.bool _ = _; simp; omega) ?_
    refine walk1 (k := ?_)
    repeat' first | refine And.intro ?_ ?_ | intro
    all_goals refine leaf ?_
    exact doneR ⟨false, rfl, fun h => by cases h⟩
def prA : List UInt8 := [48, 49, 50, 51, 52, 53, 54, 55, 56, 57, 97, 98, 99, 100, 101, 102, 48, 49, 50, 51, 52, 53, 54, 55, 56, 57, 97, 98, 99, 100, 101, 102]
def eF (k : List UInt8) (ep : Int) : Entry := ⟨0, k, 3, ep, 1, 0, prA, 0, 9, 0, [], [], [], []⟩
theorem first18_prog (k : List UInt8) (ep : Int) : CallsR Tryz.prog nlaw18_first [.str k, .int .i64 ep] [] fun v => v = .agg (eF k ep).enc := by
  refine slaw18_first fun H hh => ?_
  dsimp only [claw18_first]
  refine walk1 (k := ?_)
  repeat' first | refine And.intro ?_ ?_ | intro
  all_goals refine leaf ?_
  exact doneR rfl
theorem sgs_one {c : UInt8} (h : c.toNat < 128) : (sgs [c] 0).map (·.1) = [c.toNat] := by
  have hf : firstS [c] = (c.toNat, 1) := by
    unfold firstS
    exact if_pos h
  rw [sgs_lt (by simp), List.drop_zero, hf]
  show _ :: List.map _ (sgs [c] (0 + 1)) = _
  rw [sgs_ge (by simp)]
  rfl
theorem key_k : keyOK [107] := by
  refine ⟨by decide, ?_⟩
  rw [sgs_one (by decide)]
  decide
theorem key_j : keyOK [106] := by
  refine ⟨by decide, ?_⟩
  rw [sgs_one (by decide)]
  decide
theorem may_F {k : List UInt8} {ep : Int} (hk : keyOK k) (he : 1 ≤ ep ∧ ep ≤ 1073741824) : mayP (eF k ep) := ⟨⟨⟨of_decide_eq_true rfl, of_decide_eq_true rfl, hk⟩, he, of_decide_eq_true rfl, of_decide_eq_true rfl, of_decide_eq_true rfl, of_decide_eq_true rfl, of_decide_eq_true rfl⟩, .inr (.inr ⟨rfl, ⟨rfl, rfl⟩, rfl, rfl⟩)⟩
def rP (k : List UInt8) (ep : Int) : Rec := ⟨1, eF k ep⟩
def rD : Rec := ⟨2, dropE' [107] 0⟩
theorem rec_D : recP rD := .inr ⟨rfl, ⟨of_decide_eq_true rfl, of_decide_eq_true rfl, key_k⟩, rfl⟩
theorem aw1 : chkI ⟨2, [], 0⟩ (rP [107] 1) = 0 := (chkI_put (may_F key_k (by decide))).trans ((folI_none rfl).trans ((if_neg (show ¬ (1 : Int) ≤ 0 by decide)).trans (if_neg (show ¬ (200 ≤ 0 ∨ quoI 2 ≤ ((0 : Nat) : Int)) by decide))))
theorem aw1s : appS ⟨2, [], 0⟩ (rP [107] 1) = ⟨2, [eF [107] 1], 1⟩ := (appS_put aw1).trans rfl
theorem aw2 : chkI ⟨2, [eF [107] 1], 1⟩ rD = 0 := by
  rw [chkI, if_neg (fun h => h rec_D), if_neg (by decide)]
  rfl
theorem aw2s : appS ⟨2, [eF [107] 1], 1⟩ rD = ⟨2, [], 1⟩ := by
  rw [appS, if_neg (fun h => h aw2), if_neg (by decide)]
  with_unfolding_all rfl
theorem aw3 : chkI ⟨2, [], 1⟩ (rP [106] 1) = 9 := (chkI_put (may_F key_j (by decide))).trans ((folI_none rfl).trans (if_pos (show (1 : Int) ≤ 1 by decide)))
theorem aw3s : appS ⟨2, [], 1⟩ (rP [106] 1) = ⟨2, [], 1⟩ := if_pos (by rw [aw3]; decide)
theorem aw4 : chkI ⟨2, [], 1⟩ (rP [106] 2) = 0 := (chkI_put (may_F key_j (by decide))).trans ((folI_none rfl).trans ((if_neg (show ¬ (2 : Int) ≤ 1 by decide)).trans (if_neg (show ¬ (200 ≤ 0 ∨ quoI 2 ≤ ((0 : Nat) : Int)) by decide))))
theorem aw4s : appS ⟨2, [], 1⟩ (rP [106] 2) = ⟨2, [eF [106] 2], 2⟩ := (appS_put aw4).trans rfl
theorem ok1 : SOk ⟨2, [eF [107] 1], 1⟩ := by have := (SOk.new 2).app (rP [107] 1); rwa [aw1s] at this
theorem ok2 : SOk ⟨2, [], 1⟩ := by have := ok1.app rD; rwa [aw2s] at this
theorem ok4 : SOk ⟨2, [eF [106] 2], 2⟩ := by have := ok2.app (rP [106] 2); rwa [aw4s] at this
theorem awake_prog : CallsR Tryz.prog nlaw18_awake [] [] fun v => v = .bool true := by
  have f1 := first18_prog [107] 1
  have f2 := first18_prog [106] 1
  have f3 := first18_prog [106] 2
  refine slaw18_awake fun H hh => ?_
  dsimp only [claw18_awake]
  refine walk1 (k := ?_)
  repeat' first | refine And.intro ?_ ?_ | intro
  all_goals refine leaf ?_
  refine callL (snew_prog 2) ?_
  rintro v L0 H' ⟨s, rfl, h0⟩ hh
  refine walk1 (k := ?_)
  repeat' first | refine And.intro ?_ ?_ | intro
  all_goals refine leaf ?_
  refine callE (f1) ?_
  refine walk1 (k := ?_)
  repeat' first | refine And.intro ?_ ?_ | intro
  all_goals refine leaf ?_
  refine callL (sapply_prog s _ L0 (rP [107] 1) h0 (SOk.new 2) (by decide)) ?_
  rintro v L1 H' ⟨rfl, h1⟩ hh
  rw [aw1s] at h1
  rw [aw1]
  clear h0
  refine walk1 (k := ?_)
  repeat' first | refine And.intro ?_ ?_ | intro
  all_goals refine leaf ?_
  refine callL (sapply_prog s _ L1 rD h1 ok1 (by decide)) ?_
  rintro v L2 H' ⟨rfl, h2⟩ hh
  rw [aw2s] at h2
  rw [aw2]
  clear h1
  refine walk1 (k := ?_)
  repeat' first | refine And.intro ?_ ?_ | intro
  all_goals refine leaf ?_
  refine callE (f2) ?_
  refine walk1 (k := ?_)
  repeat' first | refine And.intro ?_ ?_ | intro
  all_goals refine leaf ?_
  refine callL (sapply_prog s _ L2 (rP [106] 1) h2 ok2 (by decide)) ?_
  rintro v L3 H' ⟨rfl, h3⟩ hh
  rw [aw3s] at h3
  rw [aw3]
  clear h2
  refine walk1 (k := ?_)
  repeat' first | refine And.intro ?_ ?_ | intro
  all_goals refine leaf ?_
  refine callE (f3) ?_
  refine walk1 (k := ?_)
  repeat' first | refine And.intro ?_ ?_ | intro
  all_goals refine leaf ?_
  refine callL (sapply_prog s _ L3 (rP [106] 2) h3 ok2 (by decide)) ?_
  rintro v L4 H' ⟨rfl, h4⟩ hh
  rw [aw4s] at h4
  rw [aw4]
  clear h3
  refine walk1 (k := ?_)
  repeat' first | refine And.intro ?_ ?_ | intro
  all_goals refine leaf ?_
  refine callN (sexp_prog s _ L4 9 h4 ok4) ?_
  rintro v Lo H' ⟨o, out, hp, _, rfl, rfl⟩ hh
  have hout : out = [eF [106] 2] := by
    refine List.perm_singleton.1 (hp.trans (.of_eq ?_))
    decide
  subst hout
  have ht := stop_prog s _ L4 h4
  refine walk1 (k := ?_)
  repeat' first | refine And.intro ?_ ?_ | intro
  all_goals refine leaf ?_
  refine callE (ht) ?_
  refine walk1 (k := ?_)
  repeat' first | refine And.intro ?_ ?_ | intro
  all_goals refine leaf ?_
  refine callE (f3) ?_
  refine walk1 (k := ?_)
  repeat' first | refine And.intro ?_ ?_ | intro
  all_goals refine leaf ?_
  exact doneR (by show V.bool (entB (nth [eF [106] 2] 0) (eF [106] 2)) = V.bool true; rw [nth_zero, entB_eq, decide_eq_true rfl])
end Go.Proofs.YtjgcgepfidcihaaGreatDoor

namespace Go.Proofs.YtjgcgepfidcihaaGreatDoor
open Go Go.CM
set_option maxRecDepth 100000
set_option maxHeartbeats 4000000

theorem rget_prog (s : Nat) (b : Bool) (l : List Entry) (n : Nm) (hl : l.length ≤ 100000) (hs : Srt l) : CallsR Tryz.prog nref15_Get [.slice s 0 l.length 14, .int .i64 n.1, .str n.2] [EL s b l] fun v => v = .tup [.agg ((getL l n).getD Entry.zero).enc, .bool (getL l n).isSome] := by
  rw [hs.getL_pl n]
  have hf := rplace_prog s b l n hl
  cases hb : isN l n with
  | true =>
    rw [hb] at hf
    have hlt := isN_lt hb
    refine sref15_Get fun H hh => ?_
    dsimp only [cref15_Get]
    refine walk (k := ?_)
    repeat' first | refine And.intro ?_ ?_ | intro
    all_goals refine leaf ?_
    refine callE (hf) ?_
    refine walk1 (k := ?_)
    repeat' first | refine And.intro ?_ ?_ | intro
    all_goals refine leaf ?_
    exact doneR rfl
  | false =>
    rw [hb] at hf
    refine sref15_Get fun H hh => ?_
    dsimp only [cref15_Get]
    refine walk (k := ?_)
    repeat' first | refine And.intro ?_ ?_ | intro
    all_goals refine leaf ?_
    refine callE (hf) ?_
    refine walk1 (k := ?_)
    repeat' first | refine And.intro ?_ ?_ | intro
    all_goals refine leaf ?_
    exact doneR rfl
end Go.Proofs.YtjgcgepfidcihaaGreatDoor
