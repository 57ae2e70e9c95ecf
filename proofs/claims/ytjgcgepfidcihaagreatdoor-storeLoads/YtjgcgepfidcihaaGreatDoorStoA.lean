/-
  The store: an entry is put.
-/
import Derived.Test.YtjgcgepfidcihaaGreatDoorStoP
import Derived.Test.YtjgcgepfidcihaaGreatDoorIndexC
import Derived.Test.YtjgcgepfidcihaaGreatDoorKueF
namespace Go.Proofs.YtjgcgepfidcihaaGreatDoor
open Go Go.CM
set_option maxRecDepth 100000
set_option maxHeartbeats 4000000

def dueE (e : Entry) : Que.Due := ⟨e.tenant, e.key, e.expiry⟩
abbrev SO (s : Nat) (most : Int) (x q qo : Nat) (top : Int) : Ob := (s, .cells true [.int .i64 most, .ptr x 0, .ptr q 0, .ptr qo 0, .int .i64 top])
def StO (s : Nat) (st : Sto) (L : List Ob) : Prop := ∃ (x sl q sq mid qo : Nat) (u : Int → Int) (ms its : Que.Its), (∀ t, u t = (cnt st.l t : Int)) ∧ Que.QOk its ms ∧ (Que.dues its).Perm (st.l.map dueE) ∧
  L = SO s st.most x q qo st.top :: QuC qo (quoI st.most) u :: XO x sl st.l.length :: EL sl true st.l :: Que.QO q sq its.length mid :: Que.rowO sq its :: (mid, .map (ms.map Que.entE)) :: Que.itO its
theorem dues_len {its : Que.Its} {l : List Entry} (h : (Que.dues its).Perm (l.map dueE)) : its.length = l.length := by
  have := h.length_eq
  simpa [Que.dues] using this
theorem nm_due (e : Entry) : Que.nm (dueE e) = enm e := rfl
theorem due_but (l : List Entry) (n : Nm) : (l.map dueE).filter (fun d => decide (Que.nm d ≠ n)) = (butN l n).map dueE := by
  induction l with
  | nil => rfl
  | cons a l ih =>
    rw [List.map_cons, butN, List.filter_cons, List.filter_cons, ih, show Que.nm (dueE a) = enm a from rfl]
    by_cases h : enm a ≠ n
    · rw [if_pos (decide_eq_true h), if_pos (decide_eq_true h)]; rfl
    · rw [if_neg (by simpa using h), if_neg (by simpa using h)]
theorem due_put {st : Sto} (hs : Srt st.l) {its its' : Que.Its} {e : Entry} (hd : (Que.dues its).Perm (st.l.map dueE)) (h : (Que.dues its').Perm (dueE e :: (Que.dues its).filter fun d => decide (Que.nm d ≠ Que.nm (dueE e)))) : (Que.dues its').Perm ((putL st.l e).map dueE) := by
  refine h.trans (((hd.filter _).cons _).trans ?_)
  rw [nm_due, due_but]
  exact ((putL_perm hs e).map dueE).symm
theorem due_drop {st : Sto} (hs : Srt st.l) {its its' : Que.Its} {n : Nm} (hd : (Que.dues its).Perm (st.l.map dueE)) (h : (Que.dues its').Perm ((Que.dues its).filter fun d => decide (Que.nm d ≠ n))) : (Que.dues its').Perm ((dropL st.l n).map dueE) := by
  refine h.trans ((hd.filter _).trans ?_)
  rw [due_but, dropL_eq hs]
theorem snew_prog (m : Int) : CallsL Tryz.prog nstore_New [.int .i64 m] [] fun v L' => ∃ s, v = .ptr s 0 ∧ StO s ⟨m, [], 0⟩ L' := by
  have hc : ∀ s, CallsL Tryz.prog nstore_Store_clear [.ptr s 0] [(s, .cells true [.int .i64 m, .nilp, .nilp, .nilp, .int .i64 0])] fun _ L' => StO s ⟨m, [], 0⟩ L' := by
    intro s
    refine sstore_Store_clear fun H hh => ?_
    dsimp only [cstore_Store_clear]
    refine walk1 (k := ?_)
    repeat' first | refine And.intro ?_ ?_ | intro
    all_goals refine leaf ?_
    refine callK inew_prog ?_
    rintro v L' H' ⟨x, rfl, rfl⟩ hh
    refine walk1 (k := ?_)
    repeat' first | refine And.intro ?_ ?_ | intro
    all_goals refine leaf ?_
    refine callK Que.new_prog ?_
    rintro v L' H' ⟨q, mid, rfl, rfl⟩ hh
    refine walk1 (k := ?_)
    repeat' first | refine And.intro ?_ ?_ | intro
    all_goals refine leaf ?_
    refine callL (qunew_prog m) ?_
    rintro v L' H' ⟨qo, rfl, rfl⟩ hh
    refine walk1 (k := ?_)
    repeat' first | refine And.intro ?_ ?_ | intro
    all_goals refine leaf ?_
    exact done ⟨x, 0, q, 0, mid, qo, fun _ => 0, [], [], fun _ => rfl, ⟨by simp [Que.Heapy], by simp, by simp⟩, by simp [Que.dues], rfl⟩
  refine sstore_New fun H hh => ?_
  dsimp only [cstore_New]
  refine walk1 (k := ?_)
  repeat' first | refine And.intro ?_ ?_ | intro
  all_goals refine leaf ?_
  rename_i s _ hh
  refine callL (hc s) ?_
  rintro v L' H' hs hh
  refine walk1 (k := ?_)
  repeat' first | refine And.intro ?_ ?_ | intro
  all_goals refine leaf ?_
  exact done ⟨s, rfl, hs⟩
theorem sput_prog (s : Nat) (st : Sto) (L : List Ob) (e : Entry) (h : StO s st L) (hok : SOk st) (hm : mayP e) (hr : (getL st.l (enm e)).isSome = false → st.l.length < 200 ∧ (cnt st.l e.tenant : Int) < quoI st.most) :
    CallsL Tryz.prog nstore_Store_put [.ptr s 0, .agg e.enc] L fun _ L' => StO s (putS st e) L' := by
  obtain ⟨x, sl, q, sq, mid, qo, u, ms, its, hu, hq, hd, rfl⟩ := h
  have hlen := hok.len
  have hits := dues_len hd
  have hix := iput_prog x sl st.l e (by omega) hok.srt
  rw [hok.srt.isN_get] at hix
  have hqp := Que.put_prog q sq mid ms its (dueE e) (by omega) hq
  have hee : e.enc = [.int .i64 e.tenant, .str e.key, .int .i64 e.state, .int .i64 e.epoch, .int .i64 e.token, .int .i64 e.point, .str e.print, .int .i64 e.lease, .int .i64 e.expiry, .int .i64 e.status, .str e.text, .str e.method, .str e.path, .str e.body] := rfl
  rw [hee] at hix ⊢
  have hmx : (if st.top < e.epoch then e.epoch else st.top) = (putS st e).top := rfl
  refine sstore_Store_put fun H hh => ?_
  dsimp only [cstore_Store_put]
  refine walk1 (k := ?_)
  repeat' first | refine And.intro ?_ ?_ | intro
  all_goals refine leaf ?_
  refine callL (hix) ?_
  cases hg : (getL st.l (enm e)).isSome with
  | true =>
    rintro v L' H' ⟨s', rfl, rfl⟩ hh
    refine walk1 (k := ?_)
    repeat' first | refine And.intro ?_ ?_ | intro
    all_goals refine leaf ?_
    refine callL (hqp) ?_
    rintro v L' H' ⟨sq', ms', its', hq', hd', rfl, rfl⟩ hh
    refine walk1 (k := ?_)
    repeat' first | refine And.intro ?_ ?_ | intro
    all_goals refine leaf ?_
    rw [hmx] at *
    refine done ⟨x, s', q, sq', mid, qo, u, ms', its', ?_, hq', due_put hok.srt hd hd', rfl⟩
    intro t
    show u t = (cnt (putL st.l e) t : Int)
    rw [cnt_put hok.srt, if_neg (by rw [hg]; simp), hu]; rfl
  | false =>
    rintro v L' H' ⟨s', rfl, rfl⟩ hh
    have hr' := (hr hg).2
    have hcl := cnt_le st.l e.tenant
    have hqo : quoI st.most ≤ 200 := by unfold quoI; omega
    refine walk1 (k := ?_)
    repeat' first | refine And.intro ?_ ?_ | intro
    all_goals refine leaf ?_
    refine callL (qutake_prog qo (quoI st.most) u e.tenant (by have := hm.1.1; omega) (by rw [hu]; exact hr') (by rw [hu]; omega)) ?_
    rintro v L' H' ⟨rfl, rfl⟩ hh
    refine walk1 (k := ?_)
    repeat' first | refine And.intro ?_ ?_ | intro
    all_goals refine leaf ?_
    refine callL (hqp) ?_
    rintro v L' H' ⟨sq', ms', its', hq', hd', rfl, rfl⟩ hh
    refine walk1 (k := ?_)
    repeat' first | refine And.intro ?_ ?_ | intro
    all_goals refine leaf ?_
    rw [hmx] at *
    refine done ⟨x, s', q, sq', mid, qo, _, ms', its', ?_, hq', due_put hok.srt hd hd', rfl⟩
    intro t
    show (if t = e.tenant then u t + 1 else u t) = (cnt (putL st.l e) t : Int)
    rw [cnt_put hok.srt, hg, hu]
    by_cases ht : t = e.tenant
    · rw [if_pos ht, if_pos ⟨rfl, ht.symm⟩]; omega
    · rw [if_neg ht, if_neg fun k => ht k.2.symm]; rfl
end Go.Proofs.YtjgcgepfidcihaaGreatDoor
