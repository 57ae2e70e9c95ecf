/-
  Texts joined: What is expired: the document's. What is expired: the document's, walked. Some behind a name: the index's, the document's, the store's.
-/
import Derived.Test.YtjgcgepfidcihaaGreatDoorOfC
import Derived.Test.YtjgcgepfidcihaaGreatDoorOfA
namespace Go.Proofs.YtjgcgepfidcihaaGreatDoor
open Go Go.CM
set_option maxRecDepth 100000
set_option maxHeartbeats 4000000

abbrev ltE (a b : Entry) : Prop := Que.lt (dueE a) (dueE b)
theorem wfirst_prog (a b : Entry) : CallsR Tryz.prog nref18_first [.agg a.enc, .agg b.enc] [] fun v => v = .bool (decide (ltE a b)) := by
  have ha := rahead_prog (enm a) (enm b)
  have hae : a.enc = [.int .i64 a.tenant, .str a.key, .int .i64 a.state, .int .i64 a.epoch, .int .i64 a.token, .int .i64 a.point, .str a.print, .int .i64 a.lease, .int .i64 a.expiry, .int .i64 a.status, .str a.text, .str a.method, .str a.path, .str a.body] := rfl
  have hbe : b.enc = [.int .i64 b.tenant, .str b.key, .int .i64 b.state, .int .i64 b.epoch, .int .i64 b.token, .int .i64 b.point, .str b.print, .int .i64 b.lease, .int .i64 b.expiry, .int .i64 b.status, .str b.text, .str b.method, .str b.path, .str b.body] := rfl
  have hl : ltE a b ↔ a.expiry < b.expiry ∨ (a.expiry = b.expiry ∧ ahd (enm a) (enm b) = true) := by
    rw [ltE, Que.lt_iff, ahd_iff]; exact Iff.rfl
  rw [hae, hbe]
  by_cases hx : a.expiry = b.expiry
  · have hv : decide (ltE a b) = ahd (enm a) (enm b) := by
      rw [Bool.eq_iff_iff, decide_eq_true_iff, hl]
      exact ⟨fun h => h.elim (fun h => by omega) (fun h => h.2), fun h => .inr ⟨hx, h⟩⟩
    rw [hv]
    refine sref18_first fun H hh => ?_
    dsimp only [cref18_first]
    refine walk1 (k := ?_)
    repeat' first | refine And.intro ?_ ?_ | intro
    all_goals refine leaf ?_
    refine c_cond_f (by show V.bool _ = _; simp [hx]) ?_
    refine walk1 (k := ?_)
    repeat' first | refine And.intro ?_ ?_ | intro
    all_goals refine leaf ?_
    refine callE (ha) ?_
    refine walk1 (k := ?_)
    repeat' first | refine And.intro ?_ ?_ | intro
    all_goals refine leaf ?_
    exact doneR rfl
  · have hv : decide (ltE a b) = decide (a.expiry < b.expiry) := by
      rw [decide_eq_decide, hl]
      exact ⟨fun h => h.elim id (fun h => absurd h.1 hx), .inl⟩
    rw [hv]
    refine sref18_first fun H hh => ?_
    dsimp only [cref18_first]
    refine walk1 (k := ?_)
    repeat' first | refine And.intro ?_ ?_ | intro
    all_goals refine leaf ?_
    refine c_cond_t (by show V.bool _ = _; simp [hx]) ?_
    refine walk1 (k := ?_)
    repeat' first | refine And.intro ?_ ?_ | intro
    all_goals refine leaf ?_
    exact doneR rfl
theorem wheld_prog (e : Entry) (now : Int) : CallsR Tryz.prog nref18_Held [.agg e.enc, .int .i64 now] [] fun v => v = .bool (!decide (freeP now e)) := by
  have hee : e.enc = [.int .i64 e.tenant, .str e.key, .int .i64 e.state, .int .i64 e.epoch, .int .i64 e.token, .int .i64 e.point, .str e.print, .int .i64 e.lease, .int .i64 e.expiry, .int .i64 e.status, .str e.text, .str e.method, .str e.path, .str e.body] := rfl
  rw [hee]
  refine sref18_Held fun H hh => ?_
  dsimp only [cref18_Held]
  refine walk (k := ?_)
  repeat' first | refine And.intro ?_ ?_ | intro
  all_goals refine leaf ?_
  · rename_i h
    refine doneR (congrArg V.bool ?_)
    rw [Bool.eq_iff_iff]
    simp only [Bool.not_eq_true', decide_eq_false_iff_not, decide_eq_true_eq]
    exact ⟨fun h1 h2 => h2.elim (fun h2 => h2 (by omega)) (fun h2 => by omega), fun h1 => by
      have := not_or.1 h1
      omega⟩
  · rename_i h
    refine doneR (congrArg V.bool ?_)
    rw [eq_comm, Bool.not_eq_false', decide_eq_true_eq]
    exact .inl h
def insF : List Entry → Entry → List Entry
  | [], e => [e]
  | a :: r, e => if ltE a e then a :: insF r e else e :: a :: r
theorem insF_at : ∀ (out : List Entry) (e : Entry) (k : Nat), k ≤ out.length → (∀ j, j < k → ltE (nth out j) e) → (k = out.length ∨ ¬ ltE (nth out k) e) → insF out e = out.take k ++ e :: out.drop k
  | [], e, k, hk, _, _ => by
    have : k = 0 := by simpa using hk
    subst this; rfl
  | a :: r, e, 0, _, _, h => by
    have h : ¬ ltE a e := by
      rcases h with h | h
      · simp at h
      · rwa [nth_zero] at h
    rw [insF, if_neg h]; rfl
  | a :: r, e, k + 1, hk, hall, h => by
    have h0 := hall 0 (by omega)
    rw [nth_zero] at h0
    rw [insF, if_pos h0, insF_at r e k (by simpa using hk) (fun j hj => by have := hall (j + 1) (by omega); rwa [nth_succ] at this) (by rw [nth_succ] at h; exact h.imp (fun h => by simpa using h) id)]
    rfl
theorem insF_perm : ∀ (out : List Entry) (e : Entry), (insF out e).Perm (e :: out)
  | [], e => .refl _
  | a :: r, e => by
    rw [insF]
    split
    · exact ((insF_perm r e).cons a).trans (List.Perm.swap _ _ _)
    · exact .refl _
theorem insF_srt : ∀ (out : List Entry) (e : Entry), out.Pairwise (fun x y => ¬ ltE y x) → (insF out e).Pairwise (fun x y => ¬ ltE y x)
  | [], e, _ => List.pairwise_singleton _ _
  | a :: r, e, h => by
    have h1 := List.pairwise_cons.1 h
    rw [insF]
    split
    · rename_i hlt
      refine List.pairwise_cons.2 ⟨fun z hz => ?_, insF_srt r e h1.2⟩
      rcases List.mem_cons.1 ((insF_perm r e).mem_iff.1 hz) with rfl | hz
      · exact fun k => Que.lt_irrefl _ (Que.lt_trans hlt k)
      · exact h1.1 z hz
    · rename_i hlt
      refine List.pairwise_cons.2 ⟨fun z hz => ?_, h⟩
      rcases List.mem_cons.1 hz with rfl | hz
      · exact hlt
      · exact fun k => by
          by_cases hza : ltE z a
          · exact h1.1 z hz hza
          · by_cases haz : ltE a z
            · exact hlt (Que.lt_trans haz k)
            · exact hlt (by have := Que.lt_tri hza haz; rw [ltE, ← this]; exact k)
def wexpL (l : List Entry) (now : Int) : List Entry := l.foldl (fun out e => if e.expiry ≤ now ∧ freeP now e then insF out e else out) []
theorem wexpL_snoc (l : List Entry) (now : Int) (e : Entry) : wexpL (l ++ [e]) now = if e.expiry ≤ now ∧ freeP now e then insF (wexpL l now) e else wexpL l now := by
  rw [wexpL, List.foldl_append]; rfl
theorem wexp_fact (now : Int) : ∀ (l : List Entry) (out : List Entry), out.Pairwise (fun x y => ¬ ltE y x) → (l.foldl (fun out e => if e.expiry ≤ now ∧ freeP now e then insF out e else out) out).Perm (out ++ l.filter fun e => decide (e.expiry ≤ now) && decide (freeP now e)) ∧ (l.foldl (fun out e => if e.expiry ≤ now ∧ freeP now e then insF out e else out) out).Pairwise (fun x y => ¬ ltE y x)
  | [], out, h => by simpa using h
  | e :: l, out, h => by
    rw [List.foldl_cons]
    by_cases hp : e.expiry ≤ now ∧ freeP now e
    · rw [if_pos hp]
      obtain ⟨h1, h2⟩ := wexp_fact now l (insF out e) (insF_srt out e h)
      refine ⟨h1.trans ?_, h2⟩
      rw [List.filter_cons_of_pos (by simpa using hp)]
      exact ((insF_perm out e).append_right _).trans List.perm_middle.symm
    · rw [if_neg hp]
      obtain ⟨h1, h2⟩ := wexp_fact now l out h
      refine ⟨h1.trans (.of_eq ?_), h2⟩
      rw [List.filter_cons_of_neg (by simpa using hp)]
theorem exp_one {l out : List Entry} (hs : Srt l) {now : Int} (hp : out.Perm (l.filter fun e => decide (e.expiry ≤ now) && decide (freeP now e))) (h : (out.map dueE).Pairwise fun x y => ¬ Que.lt y x) : out = wexpL l now := by
  obtain ⟨h1, h2⟩ := wexp_fact now l [] List.Pairwise.nil
  rw [List.nil_append] at h1
  refine List.Perm.eq_of_pairwise (le := fun x y => ¬ ltE y x) (fun a b ha hb k1 k2 => ?_) (List.pairwise_map.1 h) h2 (hp.trans h1.symm)
  have hd := Que.lt_tri k2 k1
  have ha' := (List.mem_filter.1 (hp.mem_iff.1 ha)).1
  have hb' := (List.mem_filter.1 (h1.mem_iff.1 hb)).1
  have e1 := entG_due hs ha'
  have e2 := entG_due hs hb'
  rw [← e1, ← e2, hd]
theorem wexpL_le (l : List Entry) (now : Int) : (wexpL l now).length ≤ l.length := by
  obtain ⟨h1, _⟩ := wexp_fact now l [] List.Pairwise.nil
  have := h1.length_eq
  rw [List.nil_append] at this
  rw [wexpL, this]
  exact List.length_filter_le _ _
end Go.Proofs.YtjgcgepfidcihaaGreatDoor

namespace Go.Proofs.YtjgcgepfidcihaaGreatDoor
open Go Go.CM
set_option maxRecDepth 100000
set_option maxHeartbeats 4000000

theorem wps_cutrow {P : Program} {H : Heap} {L : List Ob} {env : Env} {K : Env → Heap → Prop} {is : List I} {d : Option Nat} (hh : Has H L) (l : List Entry) (e : Entry) {id t k by_ : Nat} {a y : CM.X} {L' : Nat → List Ob} (ha : a.ev env = .slice id 0 k 14) (hy : y.ev env = .slice t 0 1 14) (hj : At (t, .cells true e.enc) L) (hk : k ≤ l.length)
    (hu : ∀ id', Upd (EL id true l) [EL id' true (l.take k ++ [e])] L (L' id')) (hb : (k + 1) * by_ ≤ 140737488355328) (kk : ∀ id' H', Has H' (L' id') → CM.wpOps P is (env.put d (.slice id' 0 (k + 1) 14)) H' K) : CM.wpOps P (⟨d, .ef (.app 14 by_ a y), none, .no⟩ :: is) env H K := by
  have hsrc : srcCells H 14 (y.ev env) = some (1, e.enc) := by rw [hy]; exact src_slice hh hj (getCells_all rfl)
  by_cases hl : l = []
  · subst hl
    have : k = 0 := by simpa using hk
    subst this
    refine wps_app hh (esz := 13) (cs := []) (vs := e.enc) (m := 1) (len := 0) (L' := L') ha (fun id' => ?_) hsrc rfl hb fun id' H' h' => kk id' H' h'
    have e1 : (([] : List Entry).take 0 ++ [e]).flatMap Entry.enc = [] ++ e.enc := by simp
    rw [← e1]
    exact hu id'
  · have hcs : l.flatMap Entry.enc ≠ [] := fun h => by
      have := congrArg List.length h
      rw [el_len] at this
      have h2 : l.length ≠ 0 := fun h => hl (List.eq_nil_of_length_eq_zero h)
      simp only [List.length_nil] at this
      omega
    have h0 : id ≠ 0 := hh.ne0 (b := true) (cs := l.flatMap Entry.enc) (hu 0).at hcs
    refine wps_appc hh (id := id) (off := 0) (len := k) (cs := l.flatMap Entry.enc) (vs := e.enc) (m := 1) (L' := L') h0 ha (fun id' => ?_) hsrc (by rw [el_len]; omega) hb fun id' H' h' => kk id' H' h'
    have e2 : (l.take k ++ [e]).flatMap Entry.enc = ((l.flatMap Entry.enc).drop 0).take (k * 14) ++ e.enc := by rw [List.flatMap_append, List.drop_zero, rows_take (sz := 14) (fun _ => rfl)]; simp
    rw [← e2]
    exact hu id'
theorem wexp_prog (w o : Nat) (st : Sto) (now : Int) (hl : st.l.length ≤ 200) : CallsN Tryz.prog nref18_Store_Expired [.ptr w 0, .int .i64 now] (WL w st o) fun v Lo => ∃ o2, v = .slice o2 0 (wexpL st.l now).length 14 ∧ Lo = [EL o2 true (wexpL st.l now)] := by
  obtain ⟨most, l, top⟩ := st
  replace hl : l.length ≤ 200 := hl
  refine sref18_Store_Expired fun H hh => ?_
  dsimp only [cref18_Store_Expired]
  refine walk1 (k := ?_)
  repeat' first | refine And.intro ?_ ?_ | intro
  all_goals refine leaf ?_
  refine loopN [0, 1, 5, 6] l.length (fun i vs L => ∃ o2, vs = [.ptr w 0, .int .i64 now, .slice o2 0 (wexpL (l.take i) now).length 14, .int .i64 (i : Nat)] ∧ L = EL o2 true (wexpL (l.take i) now) :: WL w ⟨most, l, top⟩ o)
    (Nx.hereW [_, _, .slice 0 0 0 14, _] ⟨0, rfl, rfl⟩) ?_
  clear hh
  rintro i _ _ env H hi ⟨o2, rfl, rfl⟩ hh
  simp only [puts]
  by_cases hn : i < l.length
  · have hst := wexpL_snoc (l.take i) now (nth l i)
    rw [← take_getD hn] at hst
    have hle := wexpL_le (l.take i) now
    rw [List.length_take] at hle
    have hhe := wheld_prog (nth l i) now
    have hfi := fun x => wfirst_prog x (nth l i)
    generalize hX : wexpL (l.take i) now = X at *
    refine walk1 (k := ?_)
    repeat' first | refine And.intro ?_ ?_ | intro
    all_goals refine leaf ?_
    refine c_cond_t (by show V.bool _ = _; simp; omega) ?_
    refine walk1 (k := ?_)
    repeat' first | refine And.intro ?_ ?_ | intro
    all_goals refine leaf ?_
    rename_i eb _ _ _ hh
    generalize hE : nth l i = e at *
    have hee : e.enc = [.int .i64 e.tenant, .str e.key, .int .i64 e.state, .int .i64 e.epoch, .int .i64 e.token, .int .i64 e.point, .str e.print, .int .i64 e.lease, .int .i64 e.expiry, .int .i64 e.status, .str e.text, .str e.method, .str e.path, .str e.body] := rfl
    by_cases hx : e.expiry ≤ now
    · refine wps_slot (s := 30) (v := .bool false) (by show V.bool _ = _; simp; omega) ?_
      refine walk1 (k := ?_)
      repeat' first | refine And.intro ?_ ?_ | intro
      all_goals refine leaf ?_
      by_cases hf : freeP now e
      · rw [decide_eq_true hf] at hhe
        rw [if_pos ⟨hx, hf⟩] at hst
        refine callE (hhe) ?_
        refine walk1 (k := ?_)
        repeat' first | refine And.intro ?_ ?_ | intro
        all_goals refine leaf ?_
        refine loopN [0, 1, 5, 6, 7, 8] X.length (fun k vs L => (∀ j, j < k → ltE (nth X j) e) ∧ vs = [.ptr w 0, .int .i64 now, .slice o2 0 X.length 14, .int .i64 (i : Nat), .ptr eb 0, .int .i64 (k : Nat)] ∧ L = (eb, .cells true e.enc) :: EL o2 true X :: WL w ⟨most, l, top⟩ o)
          (Nx.here ⟨fun j hj => absurd hj (Nat.not_lt_zero j), rfl, rfl⟩) ?_
        clear hh
        rintro k _ _ env H hk ⟨hall, rfl, rfl⟩ hh
        simp only [puts]
        by_cases hkn : k < X.length
        · skip
          refine walk1 (k := ?_)
          repeat' first | refine And.intro ?_ ?_ | intro
          all_goals refine leaf ?_
          refine wps_slot (s := 39) (v := .bool true) (by show V.bool _ = _; simp; omega) ?_
          refine walk1 (k := ?_)
          repeat' first | refine And.intro ?_ ?_ | intro
          all_goals refine leaf ?_
          refine callE (hfi (nth X k)) ?_
          refine walk1 (k := ?_)
          repeat' first | refine And.intro ?_ ?_ | intro
          all_goals refine leaf ?_
          by_cases hlt : ltE (nth X k) e
          · refine c_cond_t (by show V.bool _ = _; simp [hlt]) ?_
            refine walk1 (k := ?_)
            repeat' first | refine And.intro ?_ ?_ | intro
            all_goals refine leaf ?_
            exact Nx.next hkn ⟨fun j hj => by
              by_cases hjk : j = k
              · subst hjk; exact hlt
              · exact hall j (by omega), rfl, rfl⟩
          · have hins := insF_at X e k hk hall (.inr hlt)
            refine c_cond_f (by show V.bool _ = _; simp [hlt]) ?_
            refine walk1 (k := ?_)
            repeat' first | refine And.intro ?_ ?_ | intro
            all_goals refine leaf ?_
            rename_i t _ hh
            refine wps_apppart hh X (l := []) (enc := Entry.enc) (m := 13) (n := X.length - k) (i := k) (L' := fun o3 => EL o3 true ([] ++ (X.drop k).take (X.length - k)) :: (eb, .cells true e.enc) :: EL o2 true X :: WL w ⟨most, l, top⟩ o) rfl rfl (.there (.there .here)) (fun _ => rfl) (by omega) (fun o3 => .here1) (by simp; omega) fun o3 _ hh => ?_
            rw [List.nil_append, List.take_of_length_le (l := X.drop k) (by rw [List.length_drop]; exact Nat.le_refl _)] at hh ⊢
            refine walk1 (k := ?_)
            repeat' first | refine And.intro ?_ ?_ | intro
            all_goals refine leaf ?_
            rename_i t2 _ hh
            refine wps_cutrow hh X e (k := k) (L' := fun o4 => (t2, .cells true e.enc) :: EL o3 true (X.drop k) :: (eb, .cells true e.enc) :: EL o4 true (X.take k ++ [e]) :: WL w ⟨most, l, top⟩ o) rfl rfl .here hk (fun o4 => .there (.there (.there .here1))) (by omega) fun o4 _ hh => ?_
            have htk : (X.take k ++ [e]).length = k + 1 := by rw [List.length_append, List.length_take]; simp; omega
            rw [← htk]
            refine wps_approw hh (X.drop k) (l := X.take k ++ [e]) (enc := Entry.enc) (m := 13) (L' := fun o5 => (t2, .cells true e.enc) :: EL o3 true (X.drop k) :: (eb, .cells true e.enc) :: EL o5 true (X.take k ++ [e] ++ X.drop k) :: WL w ⟨most, l, top⟩ o) rfl rfl (.there .here) (fun _ => rfl) (fun o5 => .there (.there (.there .here1))) (by rw [htk, List.length_drop]; omega) fun o5 _ hh => ?_
            rw [show X.take k ++ [e] ++ X.drop k = insF X e by rw [hins, List.append_assoc]; rfl] at hh ⊢
            refine walk1 (k := ?_)
            repeat' first | refine And.intro ?_ ?_ | intro
            all_goals refine leaf ?_
            exact Nx.next hn ⟨o5, by rw [hst]; rfl, by rw [hst]⟩
        · have hins := insF_at X e k hk hall (.inl (by omega))
          refine walk1 (k := ?_)
          repeat' first | refine And.intro ?_ ?_ | intro
          all_goals refine leaf ?_
          refine wps_slot (s := 39) (v := .bool false) (by show V.bool _ = _; simp; omega) ?_
          refine walk1 (k := ?_)
          repeat' first | refine And.intro ?_ ?_ | intro
          all_goals refine leaf ?_
          rename_i t _ hh
          refine wps_apppart hh X (l := []) (enc := Entry.enc) (m := 13) (n := X.length - k) (i := k) (L' := fun o3 => EL o3 true ([] ++ (X.drop k).take (X.length - k)) :: (eb, .cells true e.enc) :: EL o2 true X :: WL w ⟨most, l, top⟩ o) rfl rfl (.there (.there .here)) (fun _ => rfl) (by omega) (fun o3 => .here1) (by simp; omega) fun o3 _ hh => ?_
          rw [List.nil_append, List.take_of_length_le (l := X.drop k) (by rw [List.length_drop]; exact Nat.le_refl _)] at hh ⊢
          refine walk1 (k := ?_)
          repeat' first | refine And.intro ?_ ?_ | intro
          all_goals refine leaf ?_
          rename_i t2 _ hh
          refine wps_cutrow hh X e (k := k) (L' := fun o4 => (t2, .cells true e.enc) :: EL o3 true (X.drop k) :: (eb, .cells true e.enc) :: EL o4 true (X.take k ++ [e]) :: WL w ⟨most, l, top⟩ o) rfl rfl .here hk (fun o4 => .there (.there (.there .here1))) (by omega) fun o4 _ hh => ?_
          have htk : (X.take k ++ [e]).length = k + 1 := by rw [List.length_append, List.length_take]; simp; omega
          rw [← htk]
          refine wps_approw hh (X.drop k) (l := X.take k ++ [e]) (enc := Entry.enc) (m := 13) (L' := fun o5 => (t2, .cells true e.enc) :: EL o3 true (X.drop k) :: (eb, .cells true e.enc) :: EL o5 true (X.take k ++ [e] ++ X.drop k) :: WL w ⟨most, l, top⟩ o) rfl rfl (.there .here) (fun _ => rfl) (fun o5 => .there (.there (.there .here1))) (by rw [htk, List.length_drop]; omega) fun o5 _ hh => ?_
          rw [show X.take k ++ [e] ++ X.drop k = insF X e by rw [hins, List.append_assoc]; rfl] at hh ⊢
          refine walk1 (k := ?_)
          repeat' first | refine And.intro ?_ ?_ | intro
          all_goals refine leaf ?_
          exact Nx.next hn ⟨o5, by rw [hst]; rfl, by rw [hst]⟩
      · rw [decide_eq_false hf] at hhe
        rw [if_neg (fun h => hf h.2)] at hst
        refine callE (hhe) ?_
        refine walk1 (k := ?_)
        repeat' first | refine And.intro ?_ ?_ | intro
        all_goals refine leaf ?_
        exact Nx.next hn ⟨o2, by rw [hst]; rfl, by rw [hst]⟩
    · rw [if_neg (fun h => hx h.1)] at hst
      refine wps_slot (s := 30) (v := .bool true) (by show V.bool _ = _; simp; omega) ?_
      refine walk1 (k := ?_)
      repeat' first | refine And.intro ?_ ?_ | intro
      all_goals refine leaf ?_
      exact Nx.next hn ⟨o2, by rw [hst]; rfl, by rw [hst]⟩
  · skip
    refine walk1 (k := ?_)
    repeat' first | refine And.intro ?_ ?_ | intro
    all_goals refine leaf ?_
    refine c_cond_f (by show V.bool _ = _; simp; omega) ?_
    refine walk1 (k := ?_)
    repeat' first | refine And.intro ?_ ?_ | intro
    all_goals refine leaf ?_
    rw [List.take_of_length_le (by omega)] at hh ⊢
    exact doneN ⟨o2, rfl, rfl⟩
end Go.Proofs.YtjgcgepfidcihaaGreatDoor

namespace Go.Proofs.YtjgcgepfidcihaaGreatDoor
open Go Go.CM
set_option maxRecDepth 100000
set_option maxHeartbeats 4000000

abbrev behL (l : List Entry) (n : Nm) : List Entry := l.filter fun e => ahd n (enm e)
abbrev aftL (l : List Entry) (n : Nm) (m : Int) : List Entry := (behL l n).take m.toNat
theorem beh_drop {l : List Entry} (h : Srt l) (n : Nm) : behL l n = l.drop (if isN l n then plN l n + 1 else plN l n) := by
  obtain ⟨A, B, h1, h2, h3, h4⟩ := h.at n
  have hA : A.filter (fun e => ahd n (enm e)) = [] := List.filter_eq_nil_iff.2 fun a ha => by rw [ahd_asymm (h1 a ha)]; simp
  have hB : B.filter (fun e => ahd n (enm e)) = B := List.filter_eq_self.2 h2
  rcases h4 with ⟨rfl, k⟩ | ⟨x, hx, rfl, k⟩
  · rw [k, if_neg (by simp), h3, List.drop_left', behL, List.filter_append, hA, hB]
    · rfl
    · rfl
  · rw [k, if_pos rfl, h3, show A ++ x :: B = (A ++ [x]) ++ B by simp, List.drop_left' (by simp), behL, List.filter_append, List.filter_append, hA, hB, List.filter_cons_of_neg (by rw [hx, ahd_irrefl]; simp)]
    rfl
theorem clone2_prog (s : Nat) (b : Bool) (l : List Entry) (i m : Nat) (hl : l.length ≤ 100000) (hi : i + m ≤ l.length) (hm : 1 ≤ m) : CallsN Tryz.prog nslices_Clone_api_Entry [.slice s (0 + i * 14) m 14] [EL s b l] fun v Lo => ∃ o, v = .slice o 0 ((l.drop i).take m).length 14 ∧ Lo = [EL o true ((l.drop i).take m)] := by
  refine sslices_Clone_api_Entry fun H hh => ?_
  dsimp only [cslices_Clone_api_Entry]
  refine walk1 (k := ?_)
  repeat' first | refine And.intro ?_ ?_ | intro
  all_goals refine leaf ?_
  refine wps_eq (b := false) ?_ ?_
  · show eqV .slice (.slice s (0 + i * 14) m 14) .nils = _
    have : (Nat.beq s 0 && Nat.beq m 0) = false := by
      rw [Bool.and_eq_false_iff]; exact .inr (Bool.eq_false_iff.2 fun e => by have := Nat.eq_of_beq_eq_true e; omega)
    simp only [eqV, this, cond_false]
  refine walk1 (k := ?_)
  repeat' first | refine And.intro ?_ ?_ | intro
  all_goals refine leaf ?_
  rename_i lid _ hh
  refine wps_apppart hh l (l := []) (enc := Entry.enc) (m := 13) (n := m) (i := i) (L' := fun o3 => [EL o3 true ([] ++ (l.drop i).take m), EL s b l]) rfl rfl (.there .here) (fun _ => rfl) hi (fun o3 => .here1) (by simp; omega) fun o3 _ hh => ?_
  rw [List.nil_append] at hh ⊢
  refine walk1 (k := ?_)
  repeat' first | refine And.intro ?_ ?_ | intro
  all_goals refine leaf ?_
  exact doneN ⟨o3, rfl, rfl⟩
theorem iafter_prog (x s : Nat) (l : List Entry) (n : Nm) (m : Int) (hl : l.length ≤ 1000) (hs : Srt l) : CallsN Tryz.prog nindex_Index_After [.ptr x 0, .int .i64 n.1, .str n.2, .int .i64 m] (IX x s l) fun v Lo => ∃ o, v = .slice o 0 (aftL l n m).length 14 ∧ Lo = [EL o true (aftL l n m)] := by
  have hf := ifind_prog x s l n (by omega) hs
  have hle := ilen_prog x s l.length
  have hpl := plN_le l n
  have hbd := beh_drop hs n
  have hlt := isN_lt (l := l) (n := n)
  have fin : ∀ j : Nat, j ≤ l.length → behL l n = l.drop j → (m < 1 ∨ l.length ≤ j → aftL l n m = []) ∧ (1 ≤ m → j < l.length → aftL l n m = (l.drop j).take (min m ((l.length : Int) - j)).toNat) := by
    intro j hj hb
    refine ⟨fun h => ?_, fun h1 h2 => ?_⟩
    · rw [aftL, hb]
      rcases h with h | h
      · rw [show m.toNat = 0 by omega]; rfl
      · rw [List.drop_of_length_le h]; simp
    · rw [aftL, hb]
      by_cases hc : m ≤ (l.length : Int) - j
      · rw [show (min m ((l.length : Int) - j)).toNat = m.toNat by omega]
      · rw [List.take_of_length_le (by rw [List.length_drop]; omega), List.take_of_length_le (by rw [List.length_drop]; omega)]
  cases hb : isN l n with
  | true =>
    rw [hb] at hf
    rw [hb, if_pos rfl] at hbd
    have hlt := hlt hb
    obtain ⟨f1, f2⟩ := fin (plN l n + 1) (by omega) hbd
    refine sindex_Index_After fun H hh => ?_
    dsimp only [cindex_Index_After]
    refine walk1 (k := ?_)
    repeat' first | refine And.intro ?_ ?_ | intro
    all_goals refine leaf ?_
    refine callE (hf) ?_
    refine walk1 (k := ?_)
    repeat' first | refine And.intro ?_ ?_ | intro
    all_goals refine leaf ?_
    by_cases h1 : m < 1
    · have hz := f1 (.inl h1)
      refine wps_slot (s := 24) (v := .bool true) (by show V.bool _ = _; simp [h1]) ?_
      refine walk1 (k := ?_)
      repeat' first | refine And.intro ?_ ?_ | intro
      all_goals refine leaf ?_
      refine CEnds.wk (Wk.nils 0 14) ?_
      exact .mk (hh.ghost true) ⟨[EL 0 true []], ⟨0, by rw [hz]; rfl, by rw [hz]⟩, rfl⟩
    · refine wps_slot (s := 24) (v := .bool false) (by show V.bool _ = _; simp; omega) ?_
      refine walk1 (k := ?_)
      repeat' first | refine And.intro ?_ ?_ | intro
      all_goals refine leaf ?_
      refine callE (hle) ?_
      refine walk1 (k := ?_)
      repeat' first | refine And.intro ?_ ?_ | intro
      all_goals refine leaf ?_
      by_cases h2 : plN l n + 1 < l.length
      · refine c_cond_f (by show V.bool _ = _; simp; omega) ?_
        refine walk1 (k := ?_)
        repeat' first | refine And.intro ?_ ?_ | intro
        all_goals refine leaf ?_
        have f2 := f2 (by omega) h2
        generalize hM : (min m ((l.length : Int) - ((plN l n + 1 : Nat) : Int))).toNat = M at *
        refine wps_slot (s := 46) (v := .slice s (0 + (plN l n + 1) * 14) M 14) (by
          show V.slice s (0 + (((plN l n : Nat) : Int) + 1).toNat * 14) ((((plN l n : Nat) : Int) + 1 + if (l.length : Int) - (((plN l n : Nat) : Int) + 1) < m then (l.length : Int) - (((plN l n : Nat) : Int) + 1) else m).toNat - (((plN l n : Nat) : Int) + 1).toNat) 14 = _
          congr 1
          all_goals first
            | omega
            | (split <;> omega)) ?_
        refine callN (clone2_prog s true l (plN l n + 1) M (by omega) (by omega) (by omega)) ?_
        rintro v Lo H' ⟨o, rfl, rfl⟩ hh
        refine walk1 (k := ?_)
        repeat' first | refine And.intro ?_ ?_ | intro
        all_goals refine leaf ?_
        exact doneN ⟨o, by rw [f2], by rw [f2]⟩
      · have hz := f1 (.inr (by omega))
        refine c_cond_t (by show V.bool _ = _; simp; omega) ?_
        refine walk1 (k := ?_)
        repeat' first | refine And.intro ?_ ?_ | intro
        all_goals refine leaf ?_
        refine CEnds.wk (Wk.nils 0 14) ?_
        exact .mk (hh.ghost true) ⟨[EL 0 true []], ⟨0, by rw [hz]; rfl, by rw [hz]⟩, rfl⟩
  | false =>
    rw [hb] at hf
    rw [hb, if_neg (by simp)] at hbd
    clear hlt
    obtain ⟨f1, f2⟩ := fin (plN l n) (by omega) hbd
    refine sindex_Index_After fun H hh => ?_
    dsimp only [cindex_Index_After]
    refine walk1 (k := ?_)
    repeat' first | refine And.intro ?_ ?_ | intro
    all_goals refine leaf ?_
    refine callE (hf) ?_
    refine walk1 (k := ?_)
    repeat' first | refine And.intro ?_ ?_ | intro
    all_goals refine leaf ?_
    by_cases h1 : m < 1
    · have hz := f1 (.inl h1)
      refine wps_slot (s := 24) (v := .bool true) (by show V.bool _ = _; simp [h1]) ?_
      refine walk1 (k := ?_)
      repeat' first | refine And.intro ?_ ?_ | intro
      all_goals refine leaf ?_
      refine CEnds.wk (Wk.nils 0 14) ?_
      exact .mk (hh.ghost true) ⟨[EL 0 true []], ⟨0, by rw [hz]; rfl, by rw [hz]⟩, rfl⟩
    · refine wps_slot (s := 24) (v := .bool false) (by show V.bool _ = _; simp; omega) ?_
      refine walk1 (k := ?_)
      repeat' first | refine And.intro ?_ ?_ | intro
      all_goals refine leaf ?_
      refine callE (hle) ?_
      refine walk1 (k := ?_)
      repeat' first | refine And.intro ?_ ?_ | intro
      all_goals refine leaf ?_
      by_cases h2 : plN l n < l.length
      · refine c_cond_f (by show V.bool _ = _; simp; omega) ?_
        refine walk1 (k := ?_)
        repeat' first | refine And.intro ?_ ?_ | intro
        all_goals refine leaf ?_
        have f2 := f2 (by omega) h2
        generalize hM : (min m ((l.length : Int) - ((plN l n : Nat) : Int))).toNat = M at *
        refine wps_slot (s := 46) (v := .slice s (0 + (plN l n) * 14) M 14) (by
          show V.slice s (0 + (((plN l n : Nat) : Int)).toNat * 14) ((((plN l n : Nat) : Int) + if (l.length : Int) - (((plN l n : Nat) : Int)) < m then (l.length : Int) - (((plN l n : Nat) : Int)) else m).toNat - (((plN l n : Nat) : Int)).toNat) 14 = _
          congr 1
          all_goals first
            | omega
            | (split <;> omega)) ?_
        refine callN (clone2_prog s true l (plN l n) M (by omega) (by omega) (by omega)) ?_
        rintro v Lo H' ⟨o, rfl, rfl⟩ hh
        refine walk1 (k := ?_)
        repeat' first | refine And.intro ?_ ?_ | intro
        all_goals refine leaf ?_
        exact doneN ⟨o, by rw [f2], by rw [f2]⟩
      · have hz := f1 (.inr (by omega))
        refine c_cond_t (by show V.bool _ = _; simp; omega) ?_
        refine walk1 (k := ?_)
        repeat' first | refine And.intro ?_ ?_ | intro
        all_goals refine leaf ?_
        refine CEnds.wk (Wk.nils 0 14) ?_
        exact .mk (hh.ghost true) ⟨[EL 0 true []], ⟨0, by rw [hz]; rfl, by rw [hz]⟩, rfl⟩
theorem safter_prog (s : Nat) (st : Sto) (L : List Ob) (n : Nm) (m : Int) (h : StO s st L) (hok : SOk st) : CallsN Tryz.prog nstore_Store_After [.ptr s 0, .int .i64 n.1, .str n.2, .int .i64 m] L fun v Lo => ∃ o, v = .slice o 0 (aftL st.l n m).length 14 ∧ Lo = [EL o true (aftL st.l n m)] := by
  obtain ⟨x, sl, q, sq, mid, qo, u, ms, its, hu, hq, hd, rfl⟩ := h
  have hlen := hok.len
  refine sstore_Store_After fun H hh => ?_
  dsimp only [cstore_Store_After]
  refine walk1 (k := ?_)
  repeat' first | refine And.intro ?_ ?_ | intro
  all_goals refine leaf ?_
  refine callN (iafter_prog x sl st.l n m (by omega) hok.srt) ?_
  rintro v Lo H' ⟨o, rfl, rfl⟩ hh
  refine walk1 (k := ?_)
  repeat' first | refine And.intro ?_ ?_ | intro
  all_goals refine leaf ?_
  exact doneN ⟨o, rfl, rfl⟩
theorem behL_snoc (l : List Entry) (n : Nm) (e : Entry) : behL (l ++ [e]) n = behL l n ++ if ahd n (enm e) then [e] else [] := by
  rw [behL, List.filter_append]
  by_cases h : ahd n (enm e) = true
  · rw [if_pos h, List.filter_cons_of_pos (p := fun e => ahd n (enm e)) h]; rfl
  · rw [if_neg h, List.filter_cons_of_neg (p := fun e => ahd n (enm e)) h]; rfl
theorem behL_app (l r : List Entry) (n : Nm) : behL (l ++ r) n = behL l n ++ behL r n := List.filter_append ..
theorem rafter_prog (s : Nat) (b : Bool) (l : List Entry) (n : Nm) (m : Int) (hl : l.length ≤ 1000) : CallsN Tryz.prog nref15_After [.slice s 0 l.length 14, .int .i64 n.1, .str n.2, .int .i64 m] [EL s b l] fun v Lo => ∃ o, v = .slice o 0 (aftL l n m).length 14 ∧ Lo = [EL o true (aftL l n m)] := by
  refine sref15_After fun H hh => ?_
  dsimp only [cref15_After]
  refine walk1 (k := ?_)
  repeat' first | refine And.intro ?_ ?_ | intro
  all_goals refine leaf ?_
  refine loopN [0, 1, 2, 3, 9, 10] l.length (fun i vs L => ∃ o, (behL (l.take i) n).length ≤ m.toNat ∧ vs = [.slice s 0 l.length 14, .int .i64 n.1, .str n.2, .int .i64 m, .slice o 0 (behL (l.take i) n).length 14, .int .i64 (i : Nat)] ∧ L = [EL o true (behL (l.take i) n), EL s b l])
    (Nx.hereW [_, _, _, _, .slice 0 0 0 14, _] ⟨0, Nat.zero_le _, rfl, rfl⟩) ?_
  clear hh
  rintro i _ _ env H hi ⟨o, hbl, rfl, rfl⟩ hh
  simp only [puts]
  have hle : (behL (l.take i) n).length ≤ (l.take i).length := List.length_filter_le _ _
  rw [List.length_take] at hle
  have hcut : behL l n = behL (l.take i) n ++ behL (l.drop i) n := by rw [← behL_app, List.take_append_drop]
  by_cases hn : i < l.length
  · have hst := behL_snoc (l.take i) n (nth l i)
    rw [← take_getD hn] at hst
    have hra := rahead_prog n (enm (nth l i))
    have hint : Hint Entry.enc (nth l i) := trivial
    refine walk1 (k := ?_)
    repeat' first | refine And.intro ?_ ?_ | intro
    all_goals refine leaf ?_
    refine wps_slot (s := 15) (v := .bool true) (by show V.bool _ = _; simp; omega) ?_
    refine walk1 (k := ?_)
    repeat' first | refine And.intro ?_ ?_ | intro
    all_goals refine leaf ?_
    by_cases hr : ((behL (l.take i) n).length : Int) < m
    · refine c_cond_t (by show V.bool _ = _; simp [hr]) ?_
      refine walk1 (k := ?_)
      repeat' first | refine And.intro ?_ ?_ | intro
      all_goals refine leaf ?_
      refine callE (hra) ?_
      refine walk1 (k := ?_)
      repeat' first | refine And.intro ?_ ?_ | intro
      all_goals refine leaf ?_
      cases hah : ahd n (enm (nth l i)) with
      | true =>
        rw [hah, if_pos rfl] at hst
        refine walk1 (k := ?_)
        repeat' first | refine And.intro ?_ ?_ | intro
        all_goals refine leaf ?_
        rename_i o2 _ _
        exact Nx.next hn ⟨o2, by rw [hst, List.length_append]; show _ + 1 ≤ _; omega, by rw [hst]; rfl, by rw [hst]⟩
      | false =>
        rw [hah, if_neg (by simp), List.append_nil] at hst
        refine walk1 (k := ?_)
        repeat' first | refine And.intro ?_ ?_ | intro
        all_goals refine leaf ?_
        exact Nx.next hn ⟨o, by rw [hst]; exact hbl, by rw [hst]; rfl, by rw [hst]⟩
    · have hfin : aftL l n m = behL (l.take i) n := by
        rw [aftL, hcut, List.take_append_of_le_length (by omega), List.take_of_length_le (by omega)]
      refine c_cond_f (by show V.bool _ = _; simp; omega) ?_
      refine walk1 (k := ?_)
      repeat' first | refine And.intro ?_ ?_ | intro
      all_goals refine leaf ?_
      rw [← hfin] at hh ⊢
      exact doneN ⟨o, rfl, rfl⟩
  · have hfin : aftL l n m = behL (l.take i) n := by
      rw [aftL, hcut, List.drop_of_length_le (by omega)]
      show (behL (l.take i) n ++ []).take _ = _
      rw [List.append_nil, List.take_of_length_le hbl]
    refine walk1 (k := ?_)
    repeat' first | refine And.intro ?_ ?_ | intro
    all_goals refine leaf ?_
    refine wps_slot (s := 15) (v := .bool false) (by show V.bool _ = _; simp; omega) ?_
    refine walk1 (k := ?_)
    repeat' first | refine And.intro ?_ ?_ | intro
    all_goals refine leaf ?_
    rw [← hfin] at hh ⊢
    exact doneN ⟨o, rfl, rfl⟩
end Go.Proofs.YtjgcgepfidcihaaGreatDoor
