/-
  The document's store: records are asked about, and done.
-/
import Derived.Test.YtjgcgepfidcihaaGreatDoorOfA
import Derived.Test.YtjgcgepfidcihaaGreatDoorRefM
namespace Go.Proofs.YtjgcgepfidcihaaGreatDoor
open Go Go.CM
set_option maxRecDepth 100000
set_option maxHeartbeats 4000000

theorem rmost_prog (m : Int) : CallsR Tryz.prog nref17_Most [.int .i64 m] [] fun v => v = .int .i64 (quoI m) := by
  refine sref17_Most fun H hh => ?_
  dsimp only [cref17_Most]
  refine walk (k := ?_)
  repeat' first | refine And.intro ?_ ?_ | intro
  all_goals refine leaf ?_
  all_goals refine doneR (congrArg (V.int .i64) ?_)
  all_goals unfold quoI
  all_goals omega
theorem rmayrec_prog (r : Rec) (hk : r.e.key.length ≤ 1000000) : CallsR Tryz.prog nref14_MayRecord [.agg r.enc] [] fun v => v = .bool (decide (recP r)) := by
  have hm := rmay_prog r.e hk
  have hn := rnamed_prog r.e hk
  have hee : r.e.enc = [.int .i64 r.e.tenant, .str r.e.key, .int .i64 r.e.state, .int .i64 r.e.epoch, .int .i64 r.e.token, .int .i64 r.e.point, .str r.e.print, .int .i64 r.e.lease, .int .i64 r.e.expiry, .int .i64 r.e.status, .str r.e.text, .str r.e.method, .str r.e.path, .str r.e.body] := rfl
  unfold Rec.enc
  rw [hee] at hm hn ⊢
  refine sref14_MayRecord fun H hh => ?_
  dsimp only [cref14_MayRecord]
  refine walk1 (k := ?_)
  repeat' first | refine And.intro ?_ ?_ | intro
  all_goals refine leaf ?_
  by_cases k1 : r.kind = 1
  · have hv : decide (recP r) = decide (mayP r.e) := by
      rw [decide_eq_decide]
      exact ⟨fun h => h.elim (fun h => h.2) (fun h => by have := h.1; omega), fun h => .inl ⟨k1, h⟩⟩
    rw [hv]
    refine c_cond_t (by show V.bool (_ == _) = _; rw [beq_iff_eq.2 k1]) ?_
    refine walk1 (k := ?_)
    repeat' first | refine And.intro ?_ ?_ | intro
    all_goals refine leaf ?_
    refine callE (hm) ?_
    refine walk1 (k := ?_)
    repeat' first | refine And.intro ?_ ?_ | intro
    all_goals refine leaf ?_
    exact doneR rfl
  · refine c_cond_f (by show V.bool (_ == _) = _; rw [beq_false_of_ne k1]) ?_
    refine walk1 (k := ?_)
    repeat' first | refine And.intro ?_ ?_ | intro
    all_goals refine leaf ?_
    by_cases k2 : r.kind = 2
    · refine wps_slot (s := 12) (v := .bool true) (by show V.bool (_ == _) = _; rw [beq_iff_eq.2 k2]) ?_
      refine walk1 (k := ?_)
      repeat' first | refine And.intro ?_ ?_ | intro
      all_goals refine leaf ?_
      by_cases np : namP r.e
      · have hv : decide (recP r) = decide (r.e = dropE' r.e.key r.e.tenant) := by
          rw [decide_eq_decide]
          exact ⟨fun h => h.elim (fun h => by have := h.1; omega) (fun h => h.2.2), fun h => .inr ⟨k2, np, h⟩⟩
        rw [hv, ← entB_eq]
        rw [decide_eq_true np] at hn
        refine callE (hn) ?_
        refine walk1 (k := ?_)
        repeat' first | refine And.intro ?_ ?_ | intro
        all_goals refine leaf ?_
        exact doneR rfl
      · have hv : decide (recP r) = false := decide_eq_false fun h => h.elim (fun h => k1 h.1) (fun h => np h.2.1)
        rw [hv]
        rw [decide_eq_false np] at hn
        refine callE (hn) ?_
        refine walk1 (k := ?_)
        repeat' first | refine And.intro ?_ ?_ | intro
        all_goals refine leaf ?_
        exact doneR rfl
    · have hv : decide (recP r) = false := decide_eq_false fun h => h.elim (fun h => k1 h.1) (fun h => k2 h.1)
      rw [hv]
      refine wps_slot (s := 12) (v := .bool false) (by show V.bool (_ == _) = _; rw [beq_false_of_ne k2]) ?_
      refine walk1 (k := ?_)
      repeat' first | refine And.intro ?_ ?_ | intro
      all_goals refine leaf ?_
      exact doneR rfl
theorem wchk_prog (w o : Nat) (st : Sto) (r : Rec) (hok : SOk st) (hk : r.e.key.length ≤ 1000000) : CallsR Tryz.prog nref18_Store_Check [.ptr w 0, .agg r.enc] (WL w st o) fun v => v = .int .i64 (chkI st r) := by
  have hmr := rmayrec_prog r hk
  have hlen := hok.len
  have hg := rget_prog o true st.l (enm r.e) (by omega) hok.srt
  have hus := wused_prog w o st r.e.tenant (by omega)
  have hmo := rmost_prog st.most
  have hre : r.enc = [.int .i64 r.kind, .int .i64 r.e.tenant, .str r.e.key, .int .i64 r.e.state, .int .i64 r.e.epoch, .int .i64 r.e.token, .int .i64 r.e.point, .str r.e.print, .int .i64 r.e.lease, .int .i64 r.e.expiry, .int .i64 r.e.status, .str r.e.text, .str r.e.method, .str r.e.path, .str r.e.body] := rfl
  rw [hre] at hmr ⊢
  by_cases hp : recP r
  · rw [decide_eq_true hp] at hmr
    by_cases k2 : r.kind = 2
    · have hv : chkI st r = if (getL st.l (enm r.e)).isSome then 0 else 6 := by rw [chkI, if_neg (fun h => h hp), if_neg (by omega)]
      cases hgl : (getL st.l (enm r.e)).isSome with
      | true =>
        rw [hgl] at hv hg
        refine sref18_Store_Check fun H hh => ?_
        dsimp only [cref18_Store_Check]
        refine walk1 (k := ?_)
        repeat' first | refine And.intro ?_ ?_ | intro
        all_goals refine leaf ?_
        refine callE (hmr) ?_
        refine walk1 (k := ?_)
        repeat' first | refine And.intro ?_ ?_ | intro
        all_goals refine leaf ?_
        refine callE (hg) ?_
        refine walk1 (k := ?_)
        repeat' first | refine And.intro ?_ ?_ | intro
        all_goals refine leaf ?_
        refine c_cond_t (by show V.bool (_ == _) = _; rw [beq_iff_eq.2 k2]) ?_
        refine walk1 (k := ?_)
        repeat' first | refine And.intro ?_ ?_ | intro
        all_goals refine leaf ?_
        exact doneR (congrArg _ hv.symm)
      | false =>
        rw [hgl] at hv hg
        refine sref18_Store_Check fun H hh => ?_
        dsimp only [cref18_Store_Check]
        refine walk1 (k := ?_)
        repeat' first | refine And.intro ?_ ?_ | intro
        all_goals refine leaf ?_
        refine callE (hmr) ?_
        refine walk1 (k := ?_)
        repeat' first | refine And.intro ?_ ?_ | intro
        all_goals refine leaf ?_
        refine callE (hg) ?_
        refine walk1 (k := ?_)
        repeat' first | refine And.intro ?_ ?_ | intro
        all_goals refine leaf ?_
        refine c_cond_t (by show V.bool (_ == _) = _; rw [beq_iff_eq.2 k2]) ?_
        refine walk1 (k := ?_)
        repeat' first | refine And.intro ?_ ?_ | intro
        all_goals refine leaf ?_
        exact doneR (congrArg _ hv.symm)
    · have hv : chkI st r = folI st r.e := by rw [chkI, if_neg (fun h => h hp), if_pos (by rcases hp with h | h; exact h.1; exact absurd h.1 k2)]
      rw [hv]
      cases hgl : getL st.l (enm r.e) with
      | some old =>
        have hf := folI_some hgl
        rw [hgl] at hg
        replace hg : CallsR Tryz.prog nref15_Get [.slice o 0 st.l.length 14, .int .i64 r.e.tenant, .str r.e.key] [EL o true st.l] fun v => v = .tup [.agg old.enc, .bool true] := hg
        refine sref18_Store_Check fun H hh => ?_
        dsimp only [cref18_Store_Check]
        refine walk1 (k := ?_)
        repeat' first | refine And.intro ?_ ?_ | intro
        all_goals refine leaf ?_
        refine callE (hmr) ?_
        refine walk1 (k := ?_)
        repeat' first | refine And.intro ?_ ?_ | intro
        all_goals refine leaf ?_
        refine callE (hg) ?_
        refine walk1 (k := ?_)
        repeat' first | refine And.intro ?_ ?_ | intro
        all_goals refine leaf ?_
        refine c_cond_f (by show V.bool (_ == _) = _; rw [beq_false_of_ne k2]) ?_
        refine walk (k := ?_)
        repeat' first | refine And.intro ?_ ?_ | intro
        all_goals refine leaf ?_
        all_goals refine doneR (congrArg (V.int .i64) ?_)
        all_goals rw [hf]
        all_goals repeat' split
        all_goals first | rfl | omega
      | none =>
        have hf := folI_none hgl
        rw [hgl] at hg
        replace hg : CallsR Tryz.prog nref15_Get [.slice o 0 st.l.length 14, .int .i64 r.e.tenant, .str r.e.key] [EL o true st.l] fun v => v = .tup [.agg Entry.zero.enc, .bool false] := hg
        refine sref18_Store_Check fun H hh => ?_
        dsimp only [cref18_Store_Check]
        refine walk1 (k := ?_)
        repeat' first | refine And.intro ?_ ?_ | intro
        all_goals refine leaf ?_
        refine callE (hmr) ?_
        refine walk1 (k := ?_)
        repeat' first | refine And.intro ?_ ?_ | intro
        all_goals refine leaf ?_
        refine callE (hg) ?_
        refine walk1 (k := ?_)
        repeat' first | refine And.intro ?_ ?_ | intro
        all_goals refine leaf ?_
        refine c_cond_f (by show V.bool (_ == _) = _; rw [beq_false_of_ne k2]) ?_
        refine walk (k := ?_)
        repeat' first | refine And.intro ?_ ?_ | intro
        all_goals refine leaf ?_
        · refine doneR (congrArg (V.int .i64) ?_)
          rw [hf]
          repeat' split
          all_goals first | rfl | omega
        · refine doneR (congrArg (V.int .i64) ?_)
          rw [hf]
          repeat' split
          all_goals first | rfl | omega
        refine callE (hus) ?_
        refine walk1 (k := ?_)
        repeat' first | refine And.intro ?_ ?_ | intro
        all_goals refine leaf ?_
        refine callE (hmo) ?_
        refine walk (k := ?_)
        repeat' first | refine And.intro ?_ ?_ | intro
        all_goals refine leaf ?_
        all_goals refine doneR (congrArg (V.int .i64) ?_)
        all_goals rw [hf]
        all_goals repeat' split
        all_goals first | rfl | omega
  · have hv : chkI st r = 1 := if_pos hp
    rw [decide_eq_false hp] at hmr
    refine sref18_Store_Check fun H hh => ?_
    dsimp only [cref18_Store_Check]
    refine walk1 (k := ?_)
    repeat' first | refine And.intro ?_ ?_ | intro
    all_goals refine leaf ?_
    refine callE (hmr) ?_
    refine walk1 (k := ?_)
    repeat' first | refine And.intro ?_ ?_ | intro
    all_goals refine leaf ?_
    exact doneR (congrArg _ hv.symm)
theorem wapp_prog (w o : Nat) (st : Sto) (r : Rec) (hok : SOk st) (hk : r.e.key.length ≤ 1000000) : CallsL Tryz.prog nref18_Store_Apply [.ptr w 0, .agg r.enc] (WL w st o) fun v L' => ∃ o', v = .int .i64 (chkI st r) ∧ L' = WL w (appS st r) o' := by
  have hck := wchk_prog w o st r hok hk
  have hlen := hok.len
  have hre : r.enc = [.int .i64 r.kind, .int .i64 r.e.tenant, .str r.e.key, .int .i64 r.e.state, .int .i64 r.e.epoch, .int .i64 r.e.token, .int .i64 r.e.point, .str r.e.print, .int .i64 r.e.lease, .int .i64 r.e.expiry, .int .i64 r.e.status, .str r.e.text, .str r.e.method, .str r.e.path, .str r.e.body] := rfl
  have hee : r.e.enc = [.int .i64 r.e.tenant, .str r.e.key, .int .i64 r.e.state, .int .i64 r.e.epoch, .int .i64 r.e.token, .int .i64 r.e.point, .str r.e.print, .int .i64 r.e.lease, .int .i64 r.e.expiry, .int .i64 r.e.status, .str r.e.text, .str r.e.method, .str r.e.path, .str r.e.body] := rfl
  rw [hre] at hck ⊢
  by_cases hz : chkI st r = 0
  · rw [hz] at hck ⊢
    by_cases k1 : r.kind = 1
    · have ha : appS st r = putS st r.e := by rw [appS, if_neg (fun h => h hz), if_pos k1]
      rw [ha]
      have hput := rput_prog o true st.l r.e (by omega)
      rw [hee] at hput
      refine sref18_Store_Apply fun H hh => ?_
      dsimp only [cref18_Store_Apply]
      refine walk1 (k := ?_)
      repeat' first | refine And.intro ?_ ?_ | intro
      all_goals refine leaf ?_
      refine callE (hck) ?_
      refine walk1 (k := ?_)
      repeat' first | refine And.intro ?_ ?_ | intro
      all_goals refine leaf ?_
      refine c_cond_f (by show V.bool (_ == _) = _; rw [k1]; rfl) ?_
      refine walk1 (k := ?_)
      repeat' first | refine And.intro ?_ ?_ | intro
      all_goals refine leaf ?_
      refine callN (hput) ?_
      rintro v Lo H' ⟨o', rfl, rfl⟩ hh
      by_cases ht : st.top < r.e.epoch
      · have htp : (putS st r.e).top = r.e.epoch := if_pos ht
        refine walk1 (k := ?_)
        repeat' first | refine And.intro ?_ ?_ | intro
        all_goals refine leaf ?_
        refine c_cond_t (by show V.bool _ = _; simp [ht]) ?_
        refine walk1 (k := ?_)
        repeat' first | refine And.intro ?_ ?_ | intro
        all_goals refine leaf ?_
        rw [← htp] at *
        exact done ⟨o', rfl, rfl⟩
      · have htp : (putS st r.e).top = st.top := if_neg ht
        refine walk1 (k := ?_)
        repeat' first | refine And.intro ?_ ?_ | intro
        all_goals refine leaf ?_
        refine c_cond_f (by show V.bool _ = _; simp; omega) ?_
        refine walk1 (k := ?_)
        repeat' first | refine And.intro ?_ ?_ | intro
        all_goals refine leaf ?_
        rw [← htp] at *
        exact done ⟨o', rfl, rfl⟩
    · have k2 := (chk_drop hz k1).1
      have ha : appS st r = ⟨st.most, dropL st.l (enm r.e), st.top⟩ := by rw [appS, if_neg (fun h => h hz), if_neg k1]
      rw [ha]
      have hdr := rdrop_prog o true st.l (enm r.e) (by omega)
      refine sref18_Store_Apply fun H hh => ?_
      dsimp only [cref18_Store_Apply]
      refine walk1 (k := ?_)
      repeat' first | refine And.intro ?_ ?_ | intro
      all_goals refine leaf ?_
      refine callE (hck) ?_
      refine walk1 (k := ?_)
      repeat' first | refine And.intro ?_ ?_ | intro
      all_goals refine leaf ?_
      refine c_cond_t (by show V.bool (_ == _) = _; rw [k2]; rfl) ?_
      refine walk1 (k := ?_)
      repeat' first | refine And.intro ?_ ?_ | intro
      all_goals refine leaf ?_
      refine callN (hdr) ?_
      rintro v Lo H' ⟨o', rfl, rfl⟩ hh
      refine walk1 (k := ?_)
      repeat' first | refine And.intro ?_ ?_ | intro
      all_goals refine leaf ?_
      exact done ⟨o', rfl, rfl⟩
  · have ha : appS st r = st := if_pos hz
    rw [ha]
    refine sref18_Store_Apply fun H hh => ?_
    dsimp only [cref18_Store_Apply]
    refine walk1 (k := ?_)
    repeat' first | refine And.intro ?_ ?_ | intro
    all_goals refine leaf ?_
    refine callE (hck) ?_
    refine walk1 (k := ?_)
    repeat' first | refine And.intro ?_ ?_ | intro
    all_goals refine leaf ?_
    refine c_cond_t (by show V.bool _ = _; simp [hz]) ?_
    refine walk1 (k := ?_)
    repeat' first | refine And.intro ?_ ?_ | intro
    all_goals refine leaf ?_
    exact done ⟨o, rfl, rfl⟩
end Go.Proofs.YtjgcgepfidcihaaGreatDoor
