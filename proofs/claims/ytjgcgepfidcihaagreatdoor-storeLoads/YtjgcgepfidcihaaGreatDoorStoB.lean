/-
  The store: records are asked about, and done.
-/
import Derived.Test.YtjgcgepfidcihaaGreatDoorStoA
namespace Go.Proofs.YtjgcgepfidcihaaGreatDoor
open Go Go.CM
set_option maxRecDepth 100000
set_option maxHeartbeats 4000000

theorem ilen_prog (x s n : Nat) : CallsR Tryz.prog nindex_Index_Len [.ptr x 0] [XO x s n] fun v => v = .int .i64 n := by
  refine sindex_Index_Len fun H hh => ?_
  dsimp only [cindex_Index_Len]
  refine walk (k := ?_)
  repeat' first | refine And.intro ?_ ?_ | intro
  all_goals refine leaf ?_
  exact doneR rfl
theorem quoI_le (m : Int) : 0 ≤ quoI m ∧ quoI m ≤ 200 := by unfold quoI; omega
theorem sfollows_prog (s : Nat) (st : Sto) (L : List Ob) (e : Entry) (h : StO s st L) (hok : SOk st) (ht : 0 ≤ e.tenant ∧ e.tenant < 4) :
    CallsR Tryz.prog nstore_Store_follows [.ptr s 0, .agg e.enc] L fun v => v = .int .i64 (folI st e) := by
  obtain ⟨x, sl, q, sq, mid, qo, u, ms, its, hu, hq, hd, rfl⟩ := h
  have hlen := hok.len
  have hg := iget_prog x sl st.l (enm e) (by omega) hok.srt
  have hcl := cnt_le st.l e.tenant
  have hqm := quoI_le st.most
  have hql := quleft_prog qo (quoI st.most) u e.tenant ht (by rw [hu]; omega) (by omega)
  rw [hu] at hql
  have hle := ilen_prog x sl st.l.length
  have hee : e.enc = [.int .i64 e.tenant, .str e.key, .int .i64 e.state, .int .i64 e.epoch, .int .i64 e.token, .int .i64 e.point, .str e.print, .int .i64 e.lease, .int .i64 e.expiry, .int .i64 e.status, .str e.text, .str e.method, .str e.path, .str e.body] := rfl
  rw [hee]
  cases hgl : getL st.l (enm e) with
  | some old =>
    rw [hgl] at hg
    have hoe : old.enc = [.int .i64 old.tenant, .str old.key, .int .i64 old.state, .int .i64 old.epoch, .int .i64 old.token, .int .i64 old.point, .str old.print, .int .i64 old.lease, .int .i64 old.expiry, .int .i64 old.status, .str old.text, .str old.method, .str old.path, .str old.body] := rfl
    replace hg : CallsR Tryz.prog nindex_Index_Get [.ptr x 0, .int .i64 e.tenant, .str e.key] (IX x sl st.l) fun v => v = .tup [.agg old.enc, .bool true] := hg
    rw [hoe] at hg
    have hf : folI st e = if old.epoch = e.epoch then (if old.state ≠ 1 ∨ e.token < old.token ∨ e.point < old.point then 9 else 0) else if e.epoch ≤ st.top then 9 else 0 := by rw [folI, hgl]
    refine sstore_Store_follows fun H hh => ?_
    dsimp only [cstore_Store_follows]
    refine walk1 (k := ?_)
    repeat' first | refine And.intro ?_ ?_ | intro
    all_goals refine leaf ?_
    refine callE (hg) ?_
    refine walk (k := ?_)
    repeat' first | refine And.intro ?_ ?_ | intro
    all_goals refine leaf ?_
    all_goals refine doneR (congrArg (V.int .i64) ?_)
    all_goals rw [hf]
    all_goals repeat' split
    all_goals first | rfl | omega
  | none =>
    rw [hgl] at hg
    replace hg : CallsR Tryz.prog nindex_Index_Get [.ptr x 0, .int .i64 e.tenant, .str e.key] (IX x sl st.l) fun v => v = .tup [.agg Entry.zero.enc, .bool false] := hg
    have hf : folI st e = if e.epoch ≤ st.top then 9 else if 200 ≤ st.l.length ∨ quoI st.most ≤ cnt st.l e.tenant then 2 else 0 := by rw [folI, hgl]
    have hk := hok.quo e.tenant
    refine sstore_Store_follows fun H hh => ?_
    dsimp only [cstore_Store_follows]
    refine walk1 (k := ?_)
    repeat' first | refine And.intro ?_ ?_ | intro
    all_goals refine leaf ?_
    refine callE (hg) ?_
    refine walk (k := ?_)
    repeat' first | refine And.intro ?_ ?_ | intro
    all_goals refine leaf ?_
    · refine doneR (congrArg (V.int .i64) ?_)
      rw [hf]
      repeat' split
      all_goals first | rfl | omega
    refine callE (hle) ?_
    refine walk (k := ?_)
    repeat' first | refine And.intro ?_ ?_ | intro
    all_goals refine leaf ?_
    · refine doneR (congrArg (V.int .i64) ?_)
      rw [hf]
      repeat' split
      all_goals first | rfl | omega
    refine callE (hql) ?_
    refine walk (k := ?_)
    repeat' first | refine And.intro ?_ ?_ | intro
    all_goals refine leaf ?_
    all_goals refine doneR (congrArg (V.int .i64) ?_)
    all_goals rw [hf]
    all_goals repeat' split
    all_goals first | rfl | omega
theorem scheck_prog (s : Nat) (st : Sto) (L : List Ob) (r : Rec) (h : StO s st L) (hok : SOk st) (hl : r.e.method.length + r.e.path.length + r.e.body.length ≤ 9000000000000000000) :
    CallsR Tryz.prog nstore_Store_Check [.ptr s 0, .agg r.enc] L fun v => v = .int .i64 (chkI st r) := by
  have hrc := record_prog r hl
  have hfo := fun ht => sfollows_prog s st L r.e h hok ht
  obtain ⟨x, sl, q, sq, mid, qo, u, ms, its, hu, hq, hd, rfl⟩ := h
  have hlen := hok.len
  have hg := iget_prog x sl st.l (enm r.e) (by omega) hok.srt
  have hre : r.enc = [.int .i64 r.kind, .int .i64 r.e.tenant, .str r.e.key, .int .i64 r.e.state, .int .i64 r.e.epoch, .int .i64 r.e.token, .int .i64 r.e.point, .str r.e.print, .int .i64 r.e.lease, .int .i64 r.e.expiry, .int .i64 r.e.status, .str r.e.text, .str r.e.method, .str r.e.path, .str r.e.body] := rfl
  have hee : r.e.enc = [.int .i64 r.e.tenant, .str r.e.key, .int .i64 r.e.state, .int .i64 r.e.epoch, .int .i64 r.e.token, .int .i64 r.e.point, .str r.e.print, .int .i64 r.e.lease, .int .i64 r.e.expiry, .int .i64 r.e.status, .str r.e.text, .str r.e.method, .str r.e.path, .str r.e.body] := rfl
  rw [hre] at hrc ⊢
  rw [hee] at hfo
  by_cases hp : recP r
  · have hrv : recV r = .tup [.str (recB' r), .int .i64 0] := if_pos hp
    rw [hrv] at hrc
    generalize recB' r = B at *
    by_cases k1 : r.kind = 1
    · have hv : chkI st r = folI st r.e := by rw [chkI, if_neg (fun h => h hp), if_pos k1]
      have hfo := hfo (by rcases hp with h | h
                          · exact ⟨h.2.1.1.1, h.2.1.1.2.1⟩
                          · have := h.1; omega)
      refine sstore_Store_Check fun H hh => ?_
      dsimp only [cstore_Store_Check]
      refine walk1 (k := ?_)
      repeat' first | refine And.intro ?_ ?_ | intro
      all_goals refine leaf ?_
      refine callE (hrc) ?_
      refine walk1 (k := ?_)
      repeat' first | refine And.intro ?_ ?_ | intro
      all_goals refine leaf ?_
      refine c_cond_t (by show V.bool (_ == _) = _; rw [beq_iff_eq.2 k1]) ?_
      refine walk1 (k := ?_)
      repeat' first | refine And.intro ?_ ?_ | intro
      all_goals refine leaf ?_
      refine callE (hfo) ?_
      refine walk1 (k := ?_)
      repeat' first | refine And.intro ?_ ?_ | intro
      all_goals refine leaf ?_
      exact doneR (congrArg _ hv.symm)
    · have hv : chkI st r = if (getL st.l (enm r.e)).isSome then 0 else 6 := by rw [chkI, if_neg (fun h => h hp), if_neg k1]
      refine sstore_Store_Check fun H hh => ?_
      dsimp only [cstore_Store_Check]
      refine walk1 (k := ?_)
      repeat' first | refine And.intro ?_ ?_ | intro
      all_goals refine leaf ?_
      refine callE (hrc) ?_
      refine walk1 (k := ?_)
      repeat' first | refine And.intro ?_ ?_ | intro
      all_goals refine leaf ?_
      refine c_cond_f (by show V.bool (_ == _) = _; rw [beq_false_of_ne k1]) ?_
      refine walk1 (k := ?_)
      repeat' first | refine And.intro ?_ ?_ | intro
      all_goals refine leaf ?_
      refine callE (hg) ?_
      refine walk1 (k := ?_)
      repeat' first | refine And.intro ?_ ?_ | intro
      all_goals refine leaf ?_
      cases hgl : (getL st.l (enm r.e)).isSome with
      | true =>
        rw [hgl] at hv
        refine c_cond_f rfl ?_
        refine walk1 (k := ?_)
        repeat' first | refine And.intro ?_ ?_ | intro
        all_goals refine leaf ?_
        exact doneR (congrArg _ hv.symm)
      | false =>
        rw [hgl] at hv
        refine c_cond_t rfl ?_
        refine walk1 (k := ?_)
        repeat' first | refine And.intro ?_ ?_ | intro
        all_goals refine leaf ?_
        exact doneR (congrArg _ hv.symm)
  · have hrv : recV r = .tup [.str [], .int .i64 1] := if_neg hp
    have hv : chkI st r = 1 := if_pos hp
    rw [hrv] at hrc
    refine sstore_Store_Check fun H hh => ?_
    dsimp only [cstore_Store_Check]
    refine walk1 (k := ?_)
    repeat' first | refine And.intro ?_ ?_ | intro
    all_goals refine leaf ?_
    refine callE (hrc) ?_
    refine walk1 (k := ?_)
    repeat' first | refine And.intro ?_ ?_ | intro
    all_goals refine leaf ?_
    exact doneR (congrArg _ hv.symm)
theorem cnt_pos {l : List Entry} (h : Srt l) {n : Nm} (hg : (getL l n).isSome = true) : 1 ≤ cnt l n.1 := by
  rw [cnt_but h n, if_pos ⟨hg, rfl⟩]; omega
theorem sapply_prog (s : Nat) (st : Sto) (L : List Ob) (r : Rec) (h : StO s st L) (hok : SOk st) (hl : r.e.method.length + r.e.path.length + r.e.body.length ≤ 9000000000000000000) :
    CallsL Tryz.prog nstore_Store_Apply [.ptr s 0, .agg r.enc] L fun v L' => v = .int .i64 (chkI st r) ∧ StO s (appS st r) L' := by
  have hck := scheck_prog s st L r h hok hl
  have hre : r.enc = [.int .i64 r.kind, .int .i64 r.e.tenant, .str r.e.key, .int .i64 r.e.state, .int .i64 r.e.epoch, .int .i64 r.e.token, .int .i64 r.e.point, .str r.e.print, .int .i64 r.e.lease, .int .i64 r.e.expiry, .int .i64 r.e.status, .str r.e.text, .str r.e.method, .str r.e.path, .str r.e.body] := rfl
  have hee : r.e.enc = [.int .i64 r.e.tenant, .str r.e.key, .int .i64 r.e.state, .int .i64 r.e.epoch, .int .i64 r.e.token, .int .i64 r.e.point, .str r.e.print, .int .i64 r.e.lease, .int .i64 r.e.expiry, .int .i64 r.e.status, .str r.e.text, .str r.e.method, .str r.e.path, .str r.e.body] := rfl
  rw [hre] at hck ⊢
  by_cases hz : chkI st r = 0
  · rw [hz] at hck ⊢
    by_cases k1 : r.kind = 1
    · have hcp := chk_put hz k1
      have hput := sput_prog s st L r.e h hok hcp.1 (fun hg => fol_room hcp.2 hg)
      have ha : appS st r = putS st r.e := by rw [appS, if_neg (fun h => h hz), if_pos k1]
      rw [hee] at hput
      refine sstore_Store_Apply fun H hh => ?_
      dsimp only [cstore_Store_Apply]
      refine walk1 (k := ?_)
      repeat' first | refine And.intro ?_ ?_ | intro
      all_goals refine leaf ?_
      refine callE (hck) ?_
      refine walk1 (k := ?_)
      repeat' first | refine And.intro ?_ ?_ | intro
      all_goals refine leaf ?_
      refine c_cond_t (by show V.bool (_ == _) = _; rw [beq_iff_eq.2 k1]) ?_
      refine walk1 (k := ?_)
      repeat' first | refine And.intro ?_ ?_ | intro
      all_goals refine leaf ?_
      refine callL (hput) ?_
      rintro v L' H' hs hh
      refine walk1 (k := ?_)
      repeat' first | refine And.intro ?_ ?_ | intro
      all_goals refine leaf ?_
      exact done ⟨rfl, by rw [ha]; exact hs⟩
    · obtain ⟨_, hn, hdr, hsome⟩ := chk_drop hz k1
      have ha : appS st r = ⟨st.most, dropL st.l (enm r.e), st.top⟩ := by rw [appS, if_neg (fun h => h hz), if_neg k1]
      rw [ha]
      obtain ⟨x, sl, q, sq, mid, qo, u, ms, its, hu, hq, hd, rfl⟩ := h
      have hlen := hok.len
      have hits := dues_len hd
      have hix := idrop_prog x sl st.l (enm r.e) (by omega) hok.srt
      have hqp := Que.drop_prog q sq mid ms its (enm r.e) (by omega) hq
      have hcl := cnt_le st.l r.e.tenant
      have hcp : 1 ≤ cnt st.l r.e.tenant := cnt_pos hok.srt hsome
      have hqg := qugive_prog qo (quoI st.most) u r.e.tenant ⟨hn.1, hn.2.1⟩ (by rw [hu]; omega) (by rw [hu]; omega)
      refine sstore_Store_Apply fun H hh => ?_
      dsimp only [cstore_Store_Apply]
      refine walk1 (k := ?_)
      repeat' first | refine And.intro ?_ ?_ | intro
      all_goals refine leaf ?_
      refine callE (hck) ?_
      refine walk1 (k := ?_)
      repeat' first | refine And.intro ?_ ?_ | intro
      all_goals refine leaf ?_
      refine c_cond_f (by show V.bool (_ == _) = _; rw [beq_false_of_ne k1]) ?_
      refine walk1 (k := ?_)
      repeat' first | refine And.intro ?_ ?_ | intro
      all_goals refine leaf ?_
      refine callL (hix) ?_
      rintro v L' H' ⟨s', rfl, rfl⟩ hh
      refine walk1 (k := ?_)
      repeat' first | refine And.intro ?_ ?_ | intro
      all_goals refine leaf ?_
      refine callL (hqp) ?_
      rintro v L' H' ⟨ms', its', hq', hd', rfl, rfl⟩ hh
      refine walk1 (k := ?_)
      repeat' first | refine And.intro ?_ ?_ | intro
      all_goals refine leaf ?_
      refine callL (hqg) ?_
      rintro v L' H' ⟨rfl, rfl⟩ hh
      refine walk1 (k := ?_)
      repeat' first | refine And.intro ?_ ?_ | intro
      all_goals refine leaf ?_
      refine done ⟨rfl, x, s', q, sq, mid, qo, _, ms', its', ?_, hq', due_drop hok.srt hd hd', rfl⟩
      intro t
      show (if t = r.e.tenant then u t - 1 else u t) = (cnt (dropL st.l (enm r.e)) t : Int)
      rw [cnt_drop hok.srt, hsome, hu]
      by_cases ht : t = r.e.tenant
      · rw [if_pos ht, if_pos ⟨rfl, ht.symm⟩, ht]; omega
      · rw [if_neg ht, if_neg fun k => ht k.2.symm]; rfl
  · have ha : appS st r = st := if_pos hz
    rw [ha]
    refine sstore_Store_Apply fun H hh => ?_
    dsimp only [cstore_Store_Apply]
    refine walk1 (k := ?_)
    repeat' first | refine And.intro ?_ ?_ | intro
    all_goals refine leaf ?_
    refine callE (hck) ?_
    refine walk1 (k := ?_)
    repeat' first | refine And.intro ?_ ?_ | intro
    all_goals refine leaf ?_
    refine c_cond_t (by show V.bool _ = _; simp [hz]) ?_
    refine walk1 (k := ?_)
    repeat' first | refine And.intro ?_ ?_ | intro
    all_goals refine leaf ?_
    exact done ⟨rfl, h⟩
end Go.Proofs.YtjgcgepfidcihaaGreatDoor
