/-
  The statements about the queue: whatever is put, dropped and taken.
-/
import Derived.Test.YtmebampmjfbahaaQueueS
import Derived.Test.YtmebampmjfbahaaCmCut
namespace Go.Proofs.Ytmebampmjfbahaa
open Go Go.CM
set_option maxRecDepth 100000
set_option maxHeartbeats 4000000

theorem due_want {its ms : Its} {want l' : List Due} {now : Int} (h : Both its ms want) (hp : l'.Perm (upTo now (dues its))) (hs : l'.Pairwise fun x y => ¬ lt y x) : l' = upTo now want :=
  List.Perm.eq_of_pairwise (le := fun x y => ¬ lt y x) (fun _ _ _ _ h1 h2 => lt_tri h2 h1) hs ((h.sorted.sublist List.filter_sublist).imp fun h1 h2 => lt_irrefl _ (lt_trans h1 h2)) (hp.trans (h.perm.symm.filter _))
theorem lt_at {a b : Due} (h : lt a b) : a.at_ ≤ b.at_ := by
  rw [lt_iff] at h; omega
theorem take_upTo {now : Int} : ∀ {l : List Due}, SortedD l → (l.takeWhile fun e => decide (e.at_ ≤ now)) = upTo now l
  | [], _ => rfl
  | a :: l, h => by
    obtain ⟨h1, h2⟩ := List.pairwise_cons.1 h
    by_cases ha : a.at_ ≤ now
    · rw [List.takeWhile_cons_of_pos (by simpa using ha), upTo, List.filter_cons_of_pos (by simpa using ha), take_upTo h2]
    · rw [List.takeWhile_cons_of_neg (by simpa using ha), upTo, List.filter_cons_of_neg (by simpa using ha)]
      refine (List.filter_eq_nil_iff.2 fun b hb => ?_).symm
      have := lt_at (h1 b hb)
      simp; omega
theorem upTo_take {now : Int} {l : List Due} (h : SortedD l) : upTo now l = l.take (upTo now l).length := by
  rw [← take_upTo h]; exact List.prefix_iff_eq_take.1 (List.takeWhile_prefix _)
theorem nd_inj : ∀ {l : List Due}, (l.map nm).Nodup → ∀ {a b : Due}, a ∈ l → b ∈ l → nm a = nm b → a = b
  | [], _, _, _, h, _, _ => by cases h
  | x :: l, nd, a, b, ha0, hb0, h => by
    rw [List.map_cons, List.nodup_cons] at nd
    rcases List.mem_cons.1 ha0 with rfl | ha
    · rcases List.mem_cons.1 hb0 with rfl | hb
      · rfl
      · exact absurd (h ▸ List.mem_map_of_mem hb) nd.1
    · rcases List.mem_cons.1 hb0 with rfl | hb
      · exact absurd (h ▸ List.mem_map_of_mem ha) nd.1
      · exact nd_inj nd.2 ha hb h
theorem met_iff (n : Int × List UInt8) (l : List Due) : decide (((others n l).length : Int) < (l.length : Int)) = decide (∃ e ∈ l, nm e = n) := by
  rw [Bool.eq_iff_iff, decide_eq_true_iff, decide_eq_true_iff, Int.ofNat_lt, List.length_filter_lt_length_iff_exists]
  simp

theorem bdue_prog (q s mid : Nat) (ms its : Its) (want : List Due) (now : Int) (hl : want.length ≤ 500) (h : Both its ms want) : CallsN Try.prog nqueue_Queue_Due [.ptr q 0, .int .i64 now] (QL q s mid ms its) fun v Lo => ∃ o,
    v = .slice o 0 (upTo now want).length 3 ∧ Lo = [WL o true (upTo now want)] :=
  (due_prog q s mid ms its now (by rw [← h.len]; exact hl)).mono fun _ _ ⟨Lo, ⟨o, l', h1, h2, h3, h4⟩, h5⟩ => by
    obtain rfl := due_want h h1 h2
    exact ⟨Lo, ⟨o, h3, h4⟩, h5⟩
theorem buntil_prog (w : Nat) (b : Bool) (l : List Due) (now : Int) (hl : l.length ≤ 500) (h : SortedD l) : CallsR Try.prog nref16_Until [.slice w 0 l.length 3, .int .i64 now] [WL w b l] fun v =>
    v = .slice w 0 (upTo now l).length 3 := by
  rw [← take_upTo h]; exact until_prog w b l now hl
theorem bsame_prog (x w : Nat) (a b : Bool) (l : List Due) (now : Int) (hl : l.length ≤ 500) (h : SortedD l) : CallsR Try.prog nref16_Same [.slice x 0 (upTo now l).length 3, .slice w 0 (upTo now l).length 3] [WL x a (upTo now l), WL w b l] fun v => v = .bool true := by
  have := same_prog x w a b (upTo now l) l (upTo now l).length (by have := upTo_le now l; omega) (upTo_le now l)
  rw [decide_eq_true (upTo_take h)] at this
  exact this
theorem bfirst_prog (q s mid : Nat) (ms its : Its) (want : List Due) (h : Both its ms want) : CallsR Try.prog nqueue_Queue_First [.ptr q 0] (QL q s mid ms its) fun v => v = match want with | [] => .tup [.agg Due.zero.enc, .bool false] | d :: _ => .tup [.agg d.enc, .bool true] := by
  have hf := first_prog q s mid ms its
  cases want with
  | nil =>
    have : its = [] := List.eq_nil_of_length_eq_zero (by rw [← h.len]; rfl)
    rw [if_pos this] at hf
    exact hf
  | cons d want =>
    obtain ⟨f1, f2⟩ := first_is h.ok.heap h.perm h.sorted
    rw [if_neg f1, f2] at hf
    exact hf
theorem bat_prog (q s mid : Nat) (ms its : Its) (want : List Due) (n : Int × List UInt8) (h : Both its ms want) : CallsR Try.prog nqueue_Queue_At [.ptr q 0, .int .i64 n.1, .str n.2] (QL q s mid ms its) fun v =>
    v = match want.find? (fun e => decide (nm e = n)) with | none => .tup [.int .i64 0, .bool false] | some e => .tup [.int .i64 e.at_, .bool true] := by
  refine (at_prog q s mid ms its n h.ok).mono ?_
  rintro v L' ⟨hv, rfl⟩
  refine ⟨?_, rfl⟩
  rcases hv with ⟨rfl, hv⟩ | ⟨e, he, hn, rfl⟩
  · have : want.find? (fun e => decide (nm e = n)) = none := List.find?_eq_none.2 fun e he => by simpa using hv e (h.perm.mem_iff.1 he)
    rw [this]
  · cases hf : want.find? (fun e => decide (nm e = n)) with
    | none =>
      have := List.find?_eq_none.1 hf e (h.perm.mem_iff.2 he)
      exact absurd (by simpa using hn) this
    | some e' =>
      have h1 := List.find?_some hf
      have h2 := h.perm.mem_iff.1 (List.mem_of_find?_eq_some hf)
      have := nd_inj h.ok.ndD he h2 (by rw [hn]; exact (of_decide_eq_true h1).symm)
      subst this
      rfl
theorem bdrop_prog (q s mid : Nat) (ms its : Its) (want : List Due) (n : Int × List UInt8) (hl : want.length ≤ 500) (h : Both its ms want) : CallsL Try.prog nqueue_Queue_Drop [.ptr q 0, .int .i64 n.1, .str n.2] (QL q s mid ms its) fun v L' => ∃ ms' its',
    Both its' ms' (others n want) ∧ v = .bool (decide (∃ e ∈ want, nm e = n)) ∧ L' = QL q s mid ms' its' := by
  refine (drop_prog q s mid ms its n (by rw [← h.len]; exact hl) h.ok).mono ?_
  rintro v L' ⟨ms', its', h1, h2, rfl, h4⟩
  refine ⟨ms', its', ⟨h1, (h.perm.filter _).trans h2.symm, h.sorted.sublist List.filter_sublist⟩, ?_, h4⟩
  congr 1
  rw [Bool.eq_iff_iff, decide_eq_true_iff, decide_eq_true_iff]
  exact ⟨fun ⟨e, he, k⟩ => ⟨e, h.perm.mem_iff.2 he, k⟩, fun ⟨e, he, k⟩ => ⟨e, h.perm.mem_iff.1 he, k⟩⟩
end Go.Proofs.Ytmebampmjfbahaa
