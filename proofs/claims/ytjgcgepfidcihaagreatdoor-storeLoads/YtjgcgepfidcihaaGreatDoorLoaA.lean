/-
  Texts joined: Entries are loaded: what comes of it, plain; may they be? Entries are loaded: the store's.
-/
import Derived.Test.YtjgcgepfidcihaaGreatDoorStoB
import Derived.Test.YtjgcgepfidcihaaGreatDoorOfA
namespace Go.Proofs.YtjgcgepfidcihaaGreatDoor
open Go Go.CM
set_option maxRecDepth 100000
set_option maxHeartbeats 4000000

def mayA (l : List Entry) : Bool := l.all fun e => decide (mayP e)
def epoA (l : List Entry) (top : Int) : Bool := l.all fun e => decide (e.epoch ≤ top)
def mayI (l : List Entry) (top : Int) : Int := if top < 0 ∨ 1073741824 < top then 1 else if mayA l = false then 1 else if epoA l top = false then 9 else 0
abbrev quoA (X : List Entry) (q : Int) : Prop := (cnt X 0 : Int) ≤ q ∧ (cnt X 1 : Int) ≤ q ∧ (cnt X 2 : Int) ≤ q ∧ (cnt X 3 : Int) ≤ q
def loadI (st : Sto) (l : List Entry) (top : Int) : Int := if 0 < st.l.length ∨ 0 < st.top then 1 else if mayI l top ≠ 0 then mayI l top else if (putsL [] l).length < l.length then 7 else if 200 < l.length ∨ ¬ quoA (putsL [] l) (quoI st.most) then 2 else 0
def loadS (st : Sto) (l : List Entry) (top : Int) : Sto := if loadI st l top = 0 then ⟨st.most, putsL [] l, top⟩ else st
theorem putsL_snoc (l : List Entry) (e : Entry) : putsL [] (l ++ [e]) = putL (putsL [] l) e := by rw [putsL, List.foldl_append]; rfl
theorem putsL_split (l : List Entry) (i : Nat) : (putsL [] l).length ≤ (putsL [] (l.take i)).length + (l.length - i) := by
  have h := putsL_le (l.drop i) (putsL [] (l.take i))
  rw [List.length_drop, putsL, putsL, ← List.foldl_append, List.take_append_drop] at h
  exact h
theorem putsL_all {l : List Entry} (h : ¬ (putsL [] l).length < l.length) {i : Nat} (hi : i ≤ l.length) : (putsL [] (l.take i)).length = i := by
  have h1 := putsL_split l i
  have h2 := putsL_le (l.take i) []
  simp only [List.length_nil, List.length_take] at h2
  omega
theorem putsL_perm {l : List Entry} (h : ¬ (putsL [] l).length < l.length) : ∀ i, i ≤ l.length → (putsL [] (l.take i)).Perm (l.take i)
  | 0, _ => .refl _
  | i + 1, hi => by
    have ih := putsL_perm h i (by omega)
    have hs : Srt (putsL [] (l.take i)) := putsL_srt Srt.nil
    have h1 := putsL_all h (i := i) (by omega)
    have h2 := putsL_all h (i := i + 1) hi
    have e1 : l.take (i + 1) = l.take i ++ [nth l i] := take_getD (by omega)
    rw [e1] at h2 ⊢
    rw [putsL_snoc] at h2 ⊢
    have h3 := len_put hs (nth l i)
    have hg : (getL (putsL [] (l.take i)) (enm (nth l i))).isSome = false := by
      cases hx : (getL (putsL [] (l.take i)) (enm (nth l i))).isSome with
      | false => rfl
      | true => rw [hx, if_neg (by simp)] at h3; omega
    have hb : butN (putsL [] (l.take i)) (enm (nth l i)) = putsL [] (l.take i) := by
      refine List.filter_eq_self.2 fun a ha => decide_eq_true fun hn => ?_
      have := hs.mem_get ha
      rw [hn] at this
      rw [this] at hg; cases hg
    have hp := putL_perm hs (nth l i)
    rw [hb] at hp
    exact hp.trans (((ih.cons _).trans (List.perm_append_singleton _ _).symm))
theorem mayA_mem {l : List Entry} (h : mayA l = true) {e : Entry} (he : e ∈ l) : mayP e := by
  have := List.all_eq_true.1 h e he
  exact of_decide_eq_true this
theorem epoA_mem {l : List Entry} {top : Int} (h : epoA l top = true) {e : Entry} (he : e ∈ l) : e.epoch ≤ top := by
  have := List.all_eq_true.1 h e he
  exact of_decide_eq_true this
theorem mayI_ok {l : List Entry} {top : Int} (h : mayI l top = 0) : (0 ≤ top ∧ top ≤ 1073741824) ∧ mayA l = true ∧ epoA l top = true := by
  rw [mayI] at h
  split at h
  · cases h
  · split at h
    · cases h
    · split at h
      · cases h
      · exact ⟨by omega, by simpa using ‹¬ mayA l = false›, by simpa using ‹¬ epoA l top = false›⟩
theorem all_not {q : Entry → Bool} {l : List Entry} {i : Nat} (hi : i < l.length) (h : q (nth l i) = false) : l.all q = false := by
  refine Bool.eq_false_iff.2 fun k => ?_
  have := List.all_eq_true.1 k _ (nth_mem hi)
  rw [h] at this; cases this
theorem smay_prog (s : Nat) (b : Bool) (l : List Entry) (top : Int) (hl : l.length ≤ 1000) (hsm : ∀ e ∈ l, e.method.length + e.path.length + e.body.length ≤ 9000000000000000000) : CallsR Tryz.prog nstore_may [.slice s 0 l.length 14, .int .i64 top] [EL s b l] fun v => v = .int .i64 (mayI l top) := by
  by_cases ht : top < 0 ∨ 1073741824 < top
  · have hv : mayI l top = 1 := if_pos ht
    rw [hv]
    refine sstore_may fun H hh => ?_
    dsimp only [cstore_may]
    refine walk (k := ?_)
    repeat' first | refine And.intro ?_ ?_ | intro
    all_goals refine leaf ?_
    · exact doneR rfl
    · exact doneR rfl
    · exfalso; omega
  · have hv : mayI l top = if mayA l = false then 1 else if epoA l top = false then 9 else 0 := if_neg ht
    rw [hv]
    refine sstore_may fun H hh => ?_
    dsimp only [cstore_may]
    refine walk (k := ?_)
    repeat' first | refine And.intro ?_ ?_ | intro
    all_goals refine leaf ?_
    · exfalso; omega
    · exfalso; omega
    refine loopN [0, 1, 15, 16, 17] l.length (fun i vs L => (l.take i).all (fun e => decide (mayP e)) = true ∧ vs = [.slice s 0 l.length 14, .int .i64 top, .slice s 0 l.length 14, .int .i64 l.length, .int .i64 (i : Nat)] ∧ L = [EL s b l]) (Nx.here ⟨by simp, rfl, rfl⟩) ?_
    clear hh
    rintro i _ _ env H hi ⟨hall, rfl, rfl⟩ hh
    simp only [puts]
    by_cases hn : i < l.length
    · have hm := may_prog (nth l i) (hsm _ (nth_mem hn))
      refine walk1 (k := ?_)
      repeat' first | refine And.intro ?_ ?_ | intro
      all_goals refine leaf ?_
      refine c_cond_t (by show V.bool _ = _; simp; omega) ?_
      refine walk1 (k := ?_)
      repeat' first | refine And.intro ?_ ?_ | intro
      all_goals refine leaf ?_
      refine callE (hm) ?_
      refine walk1 (k := ?_)
      repeat' first | refine And.intro ?_ ?_ | intro
      all_goals refine leaf ?_
      by_cases mp : mayP (nth l i)
      · refine c_cond_f (by show V.bool (!decide _) = _; rw [decide_eq_true mp]; rfl) ?_
        refine walk1 (k := ?_)
        repeat' first | refine And.intro ?_ ?_ | intro
        all_goals refine leaf ?_
        exact Nx.next hn ⟨allE_step hn hall (decide_eq_true mp), rfl, rfl⟩
      · have hA : mayA l = false := all_not hn (decide_eq_false mp)
        refine c_cond_t (by show V.bool (!decide _) = _; rw [decide_eq_false mp]; rfl) ?_
        refine walk1 (k := ?_)
        repeat' first | refine And.intro ?_ ?_ | intro
        all_goals refine leaf ?_
        exact doneR (by rw [if_pos hA])
    · have hA : mayA l = true := by rw [List.take_of_length_le (by omega)] at hall; exact hall
      rw [if_neg (by rw [hA]; simp)]
      refine walk1 (k := ?_)
      repeat' first | refine And.intro ?_ ?_ | intro
      all_goals refine leaf ?_
      refine c_cond_f (by show V.bool _ = _; simp; omega) ?_
      refine walk1 (k := ?_)
      repeat' first | refine And.intro ?_ ?_ | intro
      all_goals refine leaf ?_
      clear hall hn hi
      refine loopN [0, 1, 25, 26, 27] l.length (fun i vs L => (l.take i).all (fun e => decide (e.epoch ≤ top)) = true ∧ vs = [.slice s 0 l.length 14, .int .i64 top, .slice s 0 l.length 14, .int .i64 l.length, .int .i64 (i : Nat)] ∧ L = [EL s b l]) (Nx.here ⟨by simp, rfl, rfl⟩) ?_
      clear hh
      rintro j _ _ env H hj ⟨hall, rfl, rfl⟩ hh
      simp only [puts]
      by_cases hn : j < l.length
      · skip
        refine walk1 (k := ?_)
        repeat' first | refine And.intro ?_ ?_ | intro
        all_goals refine leaf ?_
        refine c_cond_t (by show V.bool _ = _; simp; omega) ?_
        refine walk1 (k := ?_)
        repeat' first | refine And.intro ?_ ?_ | intro
        all_goals refine leaf ?_
        by_cases mp : (nth l j).epoch ≤ top
        · refine c_cond_f (by show V.bool _ = _; simp; omega) ?_
          refine walk1 (k := ?_)
          repeat' first | refine And.intro ?_ ?_ | intro
          all_goals refine leaf ?_
          exact Nx.next hn ⟨allE_step hn hall (decide_eq_true mp), rfl, rfl⟩
        · have hE : epoA l top = false := all_not hn (decide_eq_false mp)
          refine c_cond_t (by show V.bool _ = _; simp; omega) ?_
          refine walk1 (k := ?_)
          repeat' first | refine And.intro ?_ ?_ | intro
          all_goals refine leaf ?_
          exact doneR (by rw [if_pos hE])
      · have hE : epoA l top = true := by rw [List.take_of_length_le (by omega)] at hall; exact hall
        refine walk1 (k := ?_)
        repeat' first | refine And.intro ?_ ?_ | intro
        all_goals refine leaf ?_
        refine c_cond_f (by show V.bool _ = _; simp; omega) ?_
        refine walk1 (k := ?_)
        repeat' first | refine And.intro ?_ ?_ | intro
        all_goals refine leaf ?_
        exact doneR (by rw [if_neg (by rw [hE]; simp)])
end Go.Proofs.YtjgcgepfidcihaaGreatDoor

namespace Go.Proofs.YtjgcgepfidcihaaGreatDoor
open Go Go.CM
set_option maxRecDepth 100000
set_option maxHeartbeats 4000000

abbrev CnC (c : Nat) (u : Int → Int) : Ob := (c, .cells true [.int .i64 (u 0), .int .i64 (u 1), .int .i64 (u 2), .int .i64 (u 3)])
theorem cnt_le_puts {l : List Entry} (h : ¬ (putsL [] l).length < l.length) {i : Nat} (hi : i < l.length) : cnt (putsL [] (l.take i)) (nth l i).tenant + 1 ≤ cnt (putsL [] l) (nth l i).tenant := by
  have h1 := cnt_perm (putsL_perm h i (by omega)) (nth l i).tenant
  have h2 := cnt_perm (putsL_perm h l.length (Nat.le_refl _)) (nth l i).tenant
  rw [List.take_length] at h2
  have h3 : cnt l (nth l i).tenant = cnt (l.take i ++ nth l i :: l.drop (i + 1)) (nth l i).tenant := by
    rw [show l.take i ++ nth l i :: l.drop (i + 1) = l by rw [← drop_getD hi, List.take_append_drop]]
  rw [cnt_app, cnt_cons, if_pos rfl] at h3
  omega
theorem sload_prog (s o : Nat) (b : Bool) (st : Sto) (L0 : List Ob) (l : List Entry) (top : Int) (hst : StO s st L0) (hok : SOk st) (hl : l.length ≤ 1000) (hsm : ∀ e ∈ l, e.method.length + e.path.length + e.body.length ≤ 9000000000000000000) :
    CallsL Tryz.prog nstore_Store_Load [.ptr s 0, .slice o 0 l.length 14, .int .i64 top] (EL o b l :: L0) fun v L' => ∃ L1, v = .int .i64 (loadI st l top) ∧ StO s (loadS st l top) L1 ∧ L' = EL o b l :: L1 := by
  have hle := slen_prog s st L0 hst
  have hma := smay_prog o b l top hl hsm
  by_cases h0 : 0 < st.l.length ∨ 0 < st.top
  · have hv : loadI st l top = 1 := if_pos h0
    have hs : loadS st l top = st := if_neg (by rw [hv]; decide)
    rw [hv, hs]
    obtain ⟨x, sl, q, sq, mid, qo, u, ms, its, hu, hq, hd, rfl⟩ := hst
    have hst : StO s st (SLs s st x sl q sq mid qo u ms its) := ⟨x, sl, q, sq, mid, qo, u, ms, its, hu, hq, hd, rfl⟩
    refine sstore_Store_Load fun H hh => ?_
    dsimp only [cstore_Store_Load]
    refine walk1 (k := ?_)
    repeat' first | refine And.intro ?_ ?_ | intro
    all_goals refine leaf ?_
    refine callE (hle) ?_
    refine walk1 (k := ?_)
    repeat' first | refine And.intro ?_ ?_ | intro
    all_goals refine leaf ?_
    by_cases h1 : 0 < st.l.length
    · refine wps_slot (s := 23) (v := .bool true) (by show V.bool (decide _) = _; rw [decide_eq_true (by omega)]) ?_
      refine walk1 (k := ?_)
      repeat' first | refine And.intro ?_ ?_ | intro
      all_goals refine leaf ?_
      exact done ⟨_, rfl, hst, rfl⟩
    · refine wps_slot (s := 23) (v := .bool false) (by show V.bool (decide _) = _; rw [decide_eq_false (by omega)]) ?_
      refine walk1 (k := ?_)
      repeat' first | refine And.intro ?_ ?_ | intro
      all_goals refine leaf ?_
      refine c_cond_t (by show V.bool _ = _; simp; omega) ?_
      refine walk1 (k := ?_)
      repeat' first | refine And.intro ?_ ?_ | intro
      all_goals refine leaf ?_
      exact done ⟨_, rfl, hst, rfl⟩
  · have hv0 : loadI st l top = if mayI l top ≠ 0 then mayI l top else if (putsL [] l).length < l.length then 7 else if 200 < l.length ∨ ¬ quoA (putsL [] l) (quoI st.most) then 2 else 0 := if_neg h0
    obtain ⟨most, stl, tp⟩ := st
    have hl0 : stl = [] := List.eq_nil_of_length_eq_zero (by have := not_or.1 h0; simpa using this.1)
    subst hl0
    replace hv0 : loadI ⟨most, [], tp⟩ l top = if mayI l top ≠ 0 then mayI l top else if (putsL [] l).length < l.length then 7 else if 200 < l.length ∨ ¬ quoA (putsL [] l) (quoI most) then 2 else 0 := hv0
    have htp : tp = 0 := by
      have h1 := not_or.1 h0
      have h2 : ¬ 0 < tp := h1.2
      have h3 : 0 ≤ tp := hok.top0
      omega
    obtain ⟨x, sl, q, sq, mid, qo, u, ms, its, hu, hq, hd, rfl⟩ := hst
    have hst : StO s ⟨most, [], tp⟩ (SLs s ⟨most, [], tp⟩ x sl q sq mid qo u ms its) := ⟨x, sl, q, sq, mid, qo, u, ms, its, hu, hq, hd, rfl⟩
    have hqm := quoI_le most
    refine sstore_Store_Load fun H hh => ?_
    dsimp only [cstore_Store_Load]
    refine walk1 (k := ?_)
    repeat' first | refine And.intro ?_ ?_ | intro
    all_goals refine leaf ?_
    refine callE (hle) ?_
    refine walk1 (k := ?_)
    repeat' first | refine And.intro ?_ ?_ | intro
    all_goals refine leaf ?_
    refine c_cond_f (by show V.bool (decide _) = _; rw [decide_eq_false (by omega)]) ?_
    refine walk1 (k := ?_)
    repeat' first | refine And.intro ?_ ?_ | intro
    all_goals refine leaf ?_
    refine callE (hma) ?_
    refine walk1 (k := ?_)
    repeat' first | refine And.intro ?_ ?_ | intro
    all_goals refine leaf ?_
    by_cases h1 : mayI l top ≠ 0
    · rw [if_pos h1] at hv0
      have hs : loadS ⟨most, [], tp⟩ l top = ⟨most, [], tp⟩ := if_neg (by rw [hv0]; exact h1)
      rw [hv0, hs]
      refine c_cond_t (by show V.bool _ = _; simp [h1]) ?_
      refine walk1 (k := ?_)
      repeat' first | refine And.intro ?_ ?_ | intro
      all_goals refine leaf ?_
      exact done ⟨_, rfl, hst, rfl⟩
    · rw [if_neg h1] at hv0
      refine c_cond_f (by show V.bool _ = _; simp at h1 ⊢; exact h1) ?_
      obtain ⟨htop, hmA, heA⟩ := mayI_ok (Classical.not_not.1 h1)
      clear hma hle
      refine walk1 (k := ?_)
      repeat' first | refine And.intro ?_ ?_ | intro
      all_goals refine leaf ?_
      refine callL (inew_prog) ?_
      rintro v L' H' ⟨nx, rfl, rfl⟩ hh
      refine walk1 (k := ?_)
      repeat' first | refine And.intro ?_ ?_ | intro
      all_goals refine leaf ?_
      rename_i cb _ _ _ hh
      refine loopN [0, 1, 2, 8, 9, 38, 39, 40] l.length (fun i vs L => ∃ (sn : Nat) (u' : Int → Int), (putsL [] (l.take i)).length = i ∧ (∀ t, u' t = (cnt (putsL [] (l.take i)) t : Int)) ∧ vs = [.ptr s 0, .slice o 0 l.length 14, .int .i64 top, .ptr nx 0, .ptr cb 0, .slice o 0 l.length 14, .int .i64 l.length, .int .i64 (i : Nat)] ∧
          L = CnC cb u' :: XO nx sn (putsL [] (l.take i)).length :: EL sn true (putsL [] (l.take i)) :: EL o b l :: SLs s ⟨most, [], tp⟩ x sl q sq mid qo u ms its)
        (Nx.here ⟨0, fun _ => 0, rfl, fun _ => rfl, rfl, rfl⟩) ?_
      clear hh
      rintro i _ _ env H hi ⟨sn, u', hlen, hu', rfl, rfl⟩ hh
      simp only [puts]
      have hsr : Srt (putsL [] (l.take i)) := putsL_srt Srt.nil
      by_cases hn : i < l.length
      · have e1 : putsL [] (l.take (i + 1)) = putL (putsL [] (l.take i)) (nth l i) := by rw [take_getD hn, putsL_snoc]
        have hpu := iput_prog nx sn (putsL [] (l.take i)) (nth l i) (by omega) hsr
        have hmay := mayA_mem hmA (nth_mem hn)
        have hlp := len_put hsr (nth l i)
        have hcp := fun t => cnt_put hsr (nth l i) t
        rw [hsr.isN_get] at hpu
        rw [← e1] at hpu hlp hcp
        refine walk1 (k := ?_)
        repeat' first | refine And.intro ?_ ?_ | intro
        all_goals refine leaf ?_
        refine c_cond_t (by show V.bool _ = _; simp; omega) ?_
        refine walk1 (k := ?_)
        repeat' first | refine And.intro ?_ ?_ | intro
        all_goals refine leaf ?_
        refine callL (hpu) ?_
        rintro v L' H' ⟨sn', rfl, rfl⟩ hh
        cases hg : (getL (putsL [] (l.take i)) (enm (nth l i))).isSome with
        | true =>
          rw [hg, if_neg (by simp)] at hlp
          have hsp := putsL_split l (i + 1)
          have hv : loadI ⟨most, [], tp⟩ l top = 7 := by rw [hv0, if_pos (by omega)]
          have hs : loadS ⟨most, [], tp⟩ l top = ⟨most, [], tp⟩ := if_neg (by rw [hv]; decide)
          rw [hv, hs]
          refine walk1 (k := ?_)
          repeat' first | refine And.intro ?_ ?_ | intro
          all_goals refine leaf ?_
          exact done ⟨_, rfl, hst, rfl⟩
        | false =>
          rw [hg, if_pos rfl] at hlp
          have hlen1 : (putsL [] (l.take (i + 1))).length = i + 1 := by omega
          have hul : ∀ t, 0 ≤ u' t ∧ u' t ≤ 1000 := fun t => by
            have := cnt_le (putsL [] (l.take i)) t
            rw [hu']; omega
          have hu1 : ∀ k : Int, (nth l i).tenant = k → ∀ t, (if t = k then u' t + 1 else u' t) = (cnt (putsL [] (l.take (i + 1))) t : Int) := fun k hk t => by
            rw [hcp, hg, hu', hk]
            by_cases h : t = k
            · rw [if_pos h, if_pos ⟨rfl, h.symm⟩]; omega
            · rw [if_neg h, if_neg fun q => h q.2.symm]; rfl
          have hw : ∀ t, IntKind.i64.wrap (u' t + 1) = u' t + 1 := fun t => wrap_sm (by have := hul t; omega)
          have hw0 := hw 0
          have hw1 := hw 1
          have hw2 := hw 2
          have hw3 := hw 3
          have hul0 := hul 0
          have hul1 := hul 1
          have hul2 := hul 2
          have hul3 := hul 3
          clear hpu
          refine walk1 (k := ?_)
          repeat' first | refine And.intro ?_ ?_ | intro
          all_goals refine leaf ?_
          rcases four ⟨hmay.1.1.1, hmay.1.1.2.1⟩ with ht | ht | ht | ht
          · refine wps_slot (s := 50) (v := .ptr cb 0) (by show V.ptr _ (0 + (nth l i).tenant.toNat * 1) = _; rw [ht]; rfl) ?_
            refine walk1 (k := ?_)
            repeat' first | refine And.intro ?_ ?_ | intro
            all_goals refine leaf ?_
            refine wps_slot (s := 53) (v := .ptr cb 0) (by show V.ptr _ (0 + (nth l i).tenant.toNat * 1) = _; rw [ht]; rfl) ?_
            refine walk1 (k := ?_)
            repeat' first | refine And.intro ?_ ?_ | intro
            all_goals refine leaf ?_
            exact Nx.next hn ⟨sn', fun s => if s = 0 then u' s + 1 else u' s, hlen1, hu1 0 ht, rfl, rfl⟩
          · refine wps_slot (s := 50) (v := .ptr cb 1) (by show V.ptr _ (0 + (nth l i).tenant.toNat * 1) = _; rw [ht]; rfl) ?_
            refine walk1 (k := ?_)
            repeat' first | refine And.intro ?_ ?_ | intro
            all_goals refine leaf ?_
            refine wps_slot (s := 53) (v := .ptr cb 1) (by show V.ptr _ (0 + (nth l i).tenant.toNat * 1) = _; rw [ht]; rfl) ?_
            refine walk1 (k := ?_)
            repeat' first | refine And.intro ?_ ?_ | intro
            all_goals refine leaf ?_
            exact Nx.next hn ⟨sn', fun s => if s = 1 then u' s + 1 else u' s, hlen1, hu1 1 ht, rfl, rfl⟩
          · refine wps_slot (s := 50) (v := .ptr cb 2) (by show V.ptr _ (0 + (nth l i).tenant.toNat * 1) = _; rw [ht]; rfl) ?_
            refine walk1 (k := ?_)
            repeat' first | refine And.intro ?_ ?_ | intro
            all_goals refine leaf ?_
            refine wps_slot (s := 53) (v := .ptr cb 2) (by show V.ptr _ (0 + (nth l i).tenant.toNat * 1) = _; rw [ht]; rfl) ?_
            refine walk1 (k := ?_)
            repeat' first | refine And.intro ?_ ?_ | intro
            all_goals refine leaf ?_
            exact Nx.next hn ⟨sn', fun s => if s = 2 then u' s + 1 else u' s, hlen1, hu1 2 ht, rfl, rfl⟩
          · refine wps_slot (s := 50) (v := .ptr cb 3) (by show V.ptr _ (0 + (nth l i).tenant.toNat * 1) = _; rw [ht]; rfl) ?_
            refine walk1 (k := ?_)
            repeat' first | refine And.intro ?_ ?_ | intro
            all_goals refine leaf ?_
            refine wps_slot (s := 53) (v := .ptr cb 3) (by show V.ptr _ (0 + (nth l i).tenant.toNat * 1) = _; rw [ht]; rfl) ?_
            refine walk1 (k := ?_)
            repeat' first | refine And.intro ?_ ?_ | intro
            all_goals refine leaf ?_
            exact Nx.next hn ⟨sn', fun s => if s = 3 then u' s + 1 else u' s, hlen1, hu1 3 ht, rfl, rfl⟩
      · have hX : l.take i = l := List.take_of_length_le (by omega)
        rw [hX] at hlen hu' hh
        have hnd : ¬ (putsL [] l).length < l.length := by omega
        rw [if_neg hnd] at hv0
        refine walk1 (k := ?_)
        repeat' first | refine And.intro ?_ ?_ | intro
        all_goals refine leaf ?_
        refine c_cond_f (by show V.bool _ = _; simp; omega) ?_
        refine walk1 (k := ?_)
        repeat' first | refine And.intro ?_ ?_ | intro
        all_goals refine leaf ?_
        have hql : ∀ t : Int, 0 ≤ t ∧ t < 4 → CallsR Tryz.prog nquota_Quota_Left [.ptr qo 0, .int .i64 t] [QuC qo (quoI most) u] fun v => v = .int .i64 (quoI most) := fun t ht => by
          have hz : u t = 0 := by rw [hu]; rfl
          have := quleft_prog qo (quoI most) u t ht (by rw [hz]; decide) (by omega)
          rwa [hz, Int.sub_zero] at this
        generalize hXX : putsL [] l = X at *
        refine loopN [0, 1, 2, 55, 56] 4 (fun j vs L => (∀ t : Nat, t < j → (cnt X t : Int) ≤ quoI most) ∧ (0 < j → l.length ≤ 200) ∧ vs = [.ptr s 0, .slice o 0 l.length 14, .int .i64 top, .agg [.int .i64 (u' 0), .int .i64 (u' 1), .int .i64 (u' 2), .int .i64 (u' 3)], .int .i64 (j : Nat)] ∧ L = EL o b l :: SLs s ⟨most, [], tp⟩ x sl q sq mid qo u ms its)
          (Nx.here ⟨fun t ht => absurd ht (Nat.not_lt_zero t), fun h => absurd h (by decide), rfl, rfl⟩) ?_
        clear hh
        rintro j _ _ env H hj ⟨hqa, hq2, rfl, rfl⟩ hh
        simp only [puts]
        have h5 : j = 0 ∨ j = 1 ∨ j = 2 ∨ j = 3 ∨ j = 4 := by omega
        rcases h5 with rfl | rfl | rfl | rfl | rfl
        · skip
          refine walk1 (k := ?_)
          repeat' first | refine And.intro ?_ ?_ | intro
          all_goals refine leaf ?_
          have hk := hu' 0
          refine callE (hql 0 (by decide)) ?_
          refine walk1 (k := ?_)
          repeat' first | refine And.intro ?_ ?_ | intro
          all_goals refine leaf ?_
          by_cases hq1 : (cnt X 0 : Int) ≤ quoI most
          · by_cases hq2 : l.length ≤ 200
            · refine wps_slot (s := 68) (v := .bool false) (by show V.bool _ = _; simp; omega) ?_
              refine walk1 (k := ?_)
              repeat' first | refine And.intro ?_ ?_ | intro
              all_goals refine leaf ?_
              refine c_cond_f (by show V.bool _ = _; simp; omega) ?_
              refine walk1 (k := ?_)
              repeat' first | refine And.intro ?_ ?_ | intro
              all_goals refine leaf ?_
              exact Nx.next (by omega) ⟨fun t ht => by
                by_cases htk : t = 0
                · subst htk; exact hq1
                · exact hqa t (by omega), fun _ => hq2, rfl, rfl⟩
            · have hv : loadI ⟨most, [], tp⟩ l top = 2 := by rw [hv0]; exact if_pos (.inl (by omega))
              have hs : loadS ⟨most, [], tp⟩ l top = ⟨most, [], tp⟩ := if_neg (by rw [hv]; decide)
              rw [hv, hs]
              refine wps_slot (s := 68) (v := .bool false) (by show V.bool _ = _; simp; omega) ?_
              refine walk1 (k := ?_)
              repeat' first | refine And.intro ?_ ?_ | intro
              all_goals refine leaf ?_
              refine c_cond_t (by show V.bool _ = _; simp; omega) ?_
              refine walk1 (k := ?_)
              repeat' first | refine And.intro ?_ ?_ | intro
              all_goals refine leaf ?_
              exact done ⟨_, rfl, hst, rfl⟩
          · have hv : loadI ⟨most, [], tp⟩ l top = 2 := by rw [hv0]; exact if_pos (.inr fun h => hq1 h.1)
            have hs : loadS ⟨most, [], tp⟩ l top = ⟨most, [], tp⟩ := if_neg (by rw [hv]; decide)
            rw [hv, hs]
            refine wps_slot (s := 68) (v := .bool true) (by show V.bool _ = _; simp; omega) ?_
            refine walk1 (k := ?_)
            repeat' first | refine And.intro ?_ ?_ | intro
            all_goals refine leaf ?_
            exact done ⟨_, rfl, hst, rfl⟩
        · skip
          refine walk1 (k := ?_)
          repeat' first | refine And.intro ?_ ?_ | intro
          all_goals refine leaf ?_
          have hk := hu' 1
          refine callE (hql 1 (by decide)) ?_
          refine walk1 (k := ?_)
          repeat' first | refine And.intro ?_ ?_ | intro
          all_goals refine leaf ?_
          by_cases hq1 : (cnt X 1 : Int) ≤ quoI most
          · by_cases hq2 : l.length ≤ 200
            · refine wps_slot (s := 68) (v := .bool false) (by show V.bool _ = _; simp; omega) ?_
              refine walk1 (k := ?_)
              repeat' first | refine And.intro ?_ ?_ | intro
              all_goals refine leaf ?_
              refine c_cond_f (by show V.bool _ = _; simp; omega) ?_
              refine walk1 (k := ?_)
              repeat' first | refine And.intro ?_ ?_ | intro
              all_goals refine leaf ?_
              exact Nx.next (by omega) ⟨fun t ht => by
                by_cases htk : t = 1
                · subst htk; exact hq1
                · exact hqa t (by omega), fun _ => hq2, rfl, rfl⟩
            · have hv : loadI ⟨most, [], tp⟩ l top = 2 := by rw [hv0]; exact if_pos (.inl (by omega))
              have hs : loadS ⟨most, [], tp⟩ l top = ⟨most, [], tp⟩ := if_neg (by rw [hv]; decide)
              rw [hv, hs]
              refine wps_slot (s := 68) (v := .bool false) (by show V.bool _ = _; simp; omega) ?_
              refine walk1 (k := ?_)
              repeat' first | refine And.intro ?_ ?_ | intro
              all_goals refine leaf ?_
              refine c_cond_t (by show V.bool _ = _; simp; omega) ?_
              refine walk1 (k := ?_)
              repeat' first | refine And.intro ?_ ?_ | intro
              all_goals refine leaf ?_
              exact done ⟨_, rfl, hst, rfl⟩
          · have hv : loadI ⟨most, [], tp⟩ l top = 2 := by rw [hv0]; exact if_pos (.inr fun h => hq1 h.2.1)
            have hs : loadS ⟨most, [], tp⟩ l top = ⟨most, [], tp⟩ := if_neg (by rw [hv]; decide)
            rw [hv, hs]
            refine wps_slot (s := 68) (v := .bool true) (by show V.bool _ = _; simp; omega) ?_
            refine walk1 (k := ?_)
            repeat' first | refine And.intro ?_ ?_ | intro
            all_goals refine leaf ?_
            exact done ⟨_, rfl, hst, rfl⟩
        · skip
          refine walk1 (k := ?_)
          repeat' first | refine And.intro ?_ ?_ | intro
          all_goals refine leaf ?_
          have hk := hu' 2
          refine callE (hql 2 (by decide)) ?_
          refine walk1 (k := ?_)
          repeat' first | refine And.intro ?_ ?_ | intro
          all_goals refine leaf ?_
          by_cases hq1 : (cnt X 2 : Int) ≤ quoI most
          · by_cases hq2 : l.length ≤ 200
            · refine wps_slot (s := 68) (v := .bool false) (by show V.bool _ = _; simp; omega) ?_
              refine walk1 (k := ?_)
              repeat' first | refine And.intro ?_ ?_ | intro
              all_goals refine leaf ?_
              refine c_cond_f (by show V.bool _ = _; simp; omega) ?_
              refine walk1 (k := ?_)
              repeat' first | refine And.intro ?_ ?_ | intro
              all_goals refine leaf ?_
              exact Nx.next (by omega) ⟨fun t ht => by
                by_cases htk : t = 2
                · subst htk; exact hq1
                · exact hqa t (by omega), fun _ => hq2, rfl, rfl⟩
            · have hv : loadI ⟨most, [], tp⟩ l top = 2 := by rw [hv0]; exact if_pos (.inl (by omega))
              have hs : loadS ⟨most, [], tp⟩ l top = ⟨most, [], tp⟩ := if_neg (by rw [hv]; decide)
              rw [hv, hs]
              refine wps_slot (s := 68) (v := .bool false) (by show V.bool _ = _; simp; omega) ?_
              refine walk1 (k := ?_)
              repeat' first | refine And.intro ?_ ?_ | intro
              all_goals refine leaf ?_
              refine c_cond_t (by show V.bool _ = _; simp; omega) ?_
              refine walk1 (k := ?_)
              repeat' first | refine And.intro ?_ ?_ | intro
              all_goals refine leaf ?_
              exact done ⟨_, rfl, hst, rfl⟩
          · have hv : loadI ⟨most, [], tp⟩ l top = 2 := by rw [hv0]; exact if_pos (.inr fun h => hq1 h.2.2.1)
            have hs : loadS ⟨most, [], tp⟩ l top = ⟨most, [], tp⟩ := if_neg (by rw [hv]; decide)
            rw [hv, hs]
            refine wps_slot (s := 68) (v := .bool true) (by show V.bool _ = _; simp; omega) ?_
            refine walk1 (k := ?_)
            repeat' first | refine And.intro ?_ ?_ | intro
            all_goals refine leaf ?_
            exact done ⟨_, rfl, hst, rfl⟩
        · skip
          refine walk1 (k := ?_)
          repeat' first | refine And.intro ?_ ?_ | intro
          all_goals refine leaf ?_
          have hk := hu' 3
          refine callE (hql 3 (by decide)) ?_
          refine walk1 (k := ?_)
          repeat' first | refine And.intro ?_ ?_ | intro
          all_goals refine leaf ?_
          by_cases hq1 : (cnt X 3 : Int) ≤ quoI most
          · by_cases hq2 : l.length ≤ 200
            · refine wps_slot (s := 68) (v := .bool false) (by show V.bool _ = _; simp; omega) ?_
              refine walk1 (k := ?_)
              repeat' first | refine And.intro ?_ ?_ | intro
              all_goals refine leaf ?_
              refine c_cond_f (by show V.bool _ = _; simp; omega) ?_
              refine walk1 (k := ?_)
              repeat' first | refine And.intro ?_ ?_ | intro
              all_goals refine leaf ?_
              exact Nx.next (by omega) ⟨fun t ht => by
                by_cases htk : t = 3
                · subst htk; exact hq1
                · exact hqa t (by omega), fun _ => hq2, rfl, rfl⟩
            · have hv : loadI ⟨most, [], tp⟩ l top = 2 := by rw [hv0]; exact if_pos (.inl (by omega))
              have hs : loadS ⟨most, [], tp⟩ l top = ⟨most, [], tp⟩ := if_neg (by rw [hv]; decide)
              rw [hv, hs]
              refine wps_slot (s := 68) (v := .bool false) (by show V.bool _ = _; simp; omega) ?_
              refine walk1 (k := ?_)
              repeat' first | refine And.intro ?_ ?_ | intro
              all_goals refine leaf ?_
              refine c_cond_t (by show V.bool _ = _; simp; omega) ?_
              refine walk1 (k := ?_)
              repeat' first | refine And.intro ?_ ?_ | intro
              all_goals refine leaf ?_
              exact done ⟨_, rfl, hst, rfl⟩
          · have hv : loadI ⟨most, [], tp⟩ l top = 2 := by rw [hv0]; exact if_pos (.inr fun h => hq1 h.2.2.2)
            have hs : loadS ⟨most, [], tp⟩ l top = ⟨most, [], tp⟩ := if_neg (by rw [hv]; decide)
            rw [hv, hs]
            refine wps_slot (s := 68) (v := .bool true) (by show V.bool _ = _; simp; omega) ?_
            refine walk1 (k := ?_)
            repeat' first | refine And.intro ?_ ?_ | intro
            all_goals refine leaf ?_
            exact done ⟨_, rfl, hst, rfl⟩
        · have hquo : quoA X (quoI most) := ⟨hqa 0 (by decide), hqa 1 (by decide), hqa 2 (by decide), hqa 3 (by decide)⟩
          have h200 := hq2 (by decide)
          have hv : loadI ⟨most, [], tp⟩ l top = 0 := by rw [hv0, if_neg (fun h => h.elim (fun h => by omega) (fun h => h hquo))]
          have hs : loadS ⟨most, [], tp⟩ l top = ⟨most, X, top⟩ := by rw [loadS, if_pos hv, hXX]
          rw [hv, hs]
          refine walk1 (k := ?_)
          repeat' first | refine And.intro ?_ ?_ | intro
          all_goals refine leaf ?_
          refine loopN [0, 2, 74, 75, 76] l.length (fun i vs L => ∃ (tp' : Int) (L1 : List Ob), SOk ⟨most, putsL [] (l.take i), tp'⟩ ∧ StO s ⟨most, putsL [] (l.take i), tp'⟩ L1 ∧ vs = [.ptr s 0, .int .i64 top, .slice o 0 l.length 14, .int .i64 l.length, .int .i64 (i : Nat)] ∧ L = EL o b l :: L1)
            (Nx.here ⟨tp, _, hok, hst, rfl, rfl⟩) ?_
          clear hh hst
          rintro k _ _ env H hk ⟨tp', L1, hok1, hst1, rfl, rfl⟩ hh
          simp only [puts]
          by_cases hn : k < l.length
          · have e1 : putsL [] (l.take (k + 1)) = putL (putsL [] (l.take k)) (nth l k) := by rw [take_getD hn, putsL_snoc]
            have hmay := mayA_mem hmA (nth_mem hn)
            have hcp := cnt_le_puts (by rw [hXX]; exact hnd) hn
            rw [hXX] at hcp
            have hlk := putsL_all (by rw [hXX]; exact hnd) (i := k) (by omega)
            have hcq : (cnt X (nth l k).tenant : Int) ≤ quoI most := by
              rcases four ⟨hmay.1.1.1, hmay.1.1.2.1⟩ with ht | ht | ht | ht
              · rw [ht]; exact hquo.1
              · rw [ht]; exact hquo.2.1
              · rw [ht]; exact hquo.2.2.1
              · rw [ht]; exact hquo.2.2.2
            have hroom : (getL (putsL [] (l.take k)) (enm (nth l k))).isSome = false → (putsL [] (l.take k)).length < 200 ∧ (cnt (putsL [] (l.take k)) (nth l k).tenant : Int) < quoI most := fun _ => ⟨by omega, by omega⟩
            have hput := sput_prog s _ L1 (nth l k) hst1 hok1 hmay hroom
            have hok2 := hok1.put hmay hroom
            have hS : putS ⟨most, putsL [] (l.take k), tp'⟩ (nth l k) = ⟨most, putsL [] (l.take (k + 1)), if tp' < (nth l k).epoch then (nth l k).epoch else tp'⟩ := by rw [putS, e1]
            rw [hS] at hput hok2
            refine walk1 (k := ?_)
            repeat' first | refine And.intro ?_ ?_ | intro
            all_goals refine leaf ?_
            refine c_cond_t (by show V.bool _ = _; simp; omega) ?_
            refine walk1 (k := ?_)
            repeat' first | refine And.intro ?_ ?_ | intro
            all_goals refine leaf ?_
            refine callL (hput) ?_
            rintro v L2 H' hst2 hh
            refine walk1 (k := ?_)
            repeat' first | refine And.intro ?_ ?_ | intro
            all_goals refine leaf ?_
            exact Nx.next hn ⟨_, L2, hok2, hst2, rfl, rfl⟩
          · rw [List.take_of_length_le (by omega), hXX] at hst1
            obtain ⟨x, sl, q, sq, mid, qo, u, ms, its, hu, hq, hd, rfl⟩ := hst1
            refine walk1 (k := ?_)
            repeat' first | refine And.intro ?_ ?_ | intro
            all_goals refine leaf ?_
            refine c_cond_f (by show V.bool _ = _; simp; omega) ?_
            refine walk1 (k := ?_)
            repeat' first | refine And.intro ?_ ?_ | intro
            all_goals refine leaf ?_
            exact done ⟨_, rfl, ⟨x, sl, q, sq, mid, qo, u, ms, its, hu, hq, hd, rfl⟩, rfl⟩
end Go.Proofs.YtjgcgepfidcihaaGreatDoor
