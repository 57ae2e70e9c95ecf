/-
  The law of files: of the files of a disk those of a word are told by their numbers.
-/
import Derived.Test.YtdpnaneedjoboaaGreatDoorFllC
namespace Go.Proofs.YtdpnaneedjoboaaGreatDoor
open Go Go.CM
set_option maxRecDepth 100000
set_option maxHeartbeats 4000000

def mtV (x : Tx × Nat) : Tx × V := (x.1, .bool true)
theorem find_mt (s : Tx) (K : List (Tx × Nat)) : findI kS (.str s) ((K.map mtV).map nvE) = some (fat s K) := find_tx mtV (·.1) (fun _ => rfl) s K
abbrev DK (d m ws : Nat) (K : List (Tx × Nat)) : List Ob := [DO d m ws (dskK K).waits.length (dskK K).room (dskK K).fuse (dskK K).down, MO m (dskK K).sure, WO ws (dskK K).waits]
noncomputable abbrev LK (hm mm t e : Nat) (w : Tx) (names : List Tx) (K : List (Tx × Nat)) : List Ob := (hm, .map ((hasK w K).map hsE)) :: (mm, .map ((K.map mtV).map nvE)) :: TL t false names :: LO e
theorem zero_len (i : Nat) : (zeroT i).length = i := List.length_replicate
def lastN (A : List Int) (i : Nat) : Int := if i = 0 then 0 else nth A (i - 1)
def cntB (below : Int) (l : List Int) : Nat := (l.filter fun n => decide (n < below)).length
theorem cntB_snoc (below : Int) (l : List Int) (n : Int) : cntB below (l ++ [n]) = cntB below l + if n < below then 1 else 0 := by
  unfold cntB
  rw [List.filter_append, List.length_append]
  by_cases h : n < below
  · rw [if_pos h, List.filter_cons_of_pos (by simpa using h)]; rfl
  · rw [if_neg h, List.filter_cons_of_neg (by simpa using h)]; rfl
theorem cntB_le (below : Int) (l : List Int) : cntB below l ≤ l.length := List.length_filter_le _ _
theorem flaw_prog (t : Nat) (names : List Tx) (w : Tx) (below : Int) (e : Nat) : CallsR Tryz.prog nlaw08_FilesAll [.slice t 0 names.length 1, .str w, .int .i64 below] (TL t false names :: LO e) fun v => v = .bool true := by
  have hnew : CallsL Tryz.prog ndisk_New [.int .i64 60000] [] fun v L' => ∃ d m, v = .ptr d 0 ∧ L' = DK d m 0 [] := dnew_prog 60000
  refine slaw08_FilesAll fun H hh => ?_
  dsimp only [claw08_FilesAll]
  refine walk1 (k := ?_)
  repeat' first | refine And.intro ?_ ?_ | intro
  all_goals refine leaf ?_
  refine callE ((fawake_prog e)) ?_
  refine walk (k := ?_)
  repeat' first | refine And.intro ?_ ?_ | intro
  all_goals refine leaf ?_
  · exact doneR rfl
  · exact doneR rfl
  rename_i hl16 hw30
  have hl16 : names.length ≤ 16 := by omega
  have hw30 : w.length ≤ 30 := by omega
  refine callL (hnew) ?_
  rintro v L' H' ⟨d, m, rfl, rfl⟩ hh
  refine walk1 (k := ?_)
  repeat' first | refine And.intro ?_ ?_ | intro
  all_goals refine leaf ?_
  rename_i hm _ _ mm _ hh
  refine loopN [1, 2, 7, 8, 9, 35, 36, 37] names.length (fun i vs L => ∃ ws, vs = [.str w, .int .i64 below, .ptr d 0, .map hm, .map mm, .slice t 0 names.length 1, .int .i64 names.length, .int .i64 (i : Nat)] ∧
      L = DK d m ws (accK names i) ++ LK hm mm t e w names (accK names i))
    (Nx.here ⟨0, rfl, rfl⟩) ?_
  clear hh
  rintro i _ _ env H hi ⟨ws, rfl, rfl⟩ hh
  simp only [puts]
  have hK := KOk.acc names i
  have hok := hK.dsk (by omega)
  by_cases hn : i < names.length
  · have hacc : accK names (i + 1) = if takK (accK names i) (nth names i) = true then accK names i ++ [(nth names i, i)] else accK names i := rfl
    generalize accK names i = K at *
    refine walk1 (k := ?_)
    repeat' first | refine And.intro ?_ ?_ | intro
    all_goals refine leaf ?_
    refine c_cond_t (by show V.bool _ = _; simp; omega) ?_
    refine walk (k := ?_)
    repeat' first | refine And.intro ?_ ?_ | intro
    all_goals refine leaf ?_
    · exact doneR rfl
    rename_i hl30
    cases ht : hasT (nth names i) K with
    | true =>
      obtain ⟨j, hf⟩ : ∃ j, fat (nth names i) K = some j := Option.isSome_iff_exists.1 ht
      have hj := (fat_some hf).1
      have hno : takK K (nth names i) = false := by unfold takK; rw [ht]; simp
      rw [if_neg (by rw [hno]; decide)] at hacc
      refine wps_lookF hh rfl (.there (.there (.there (.there .here)))) (by rw [← hf]; exact find_mt _ K) (e := nvE (mtV (nth K j))) (by rw [List.getElem?_map, List.getElem?_map, getD_some hj]; rfl) ?_
      refine walk1 (k := ?_)
      repeat' first | refine And.intro ?_ ?_ | intro
      all_goals refine leaf ?_
      exact Nx.next hn ⟨ws, rfl, by rw [hacc]⟩
    | false =>
      have hf : fat (nth names i) K = none := by
        unfold hasT at ht
        exact Option.not_isSome_iff_eq_none.1 (by simp [ht])
      obtain ⟨ha1, ha2⟩ := app_K hK (by omega) ht
      have hap := dappend_prog d m ws (dskK K) (nth names i) (zeroT i) hok (by rw [zero_len]; omega)
      rw [ha1, ha2] at hap
      have hrn := rnumber_prog w (nth names i) (by omega) (by omega)
      refine wps_lookN hh rfl (.there (.there (.there (.there .here)))) (by rw [← hf]; exact find_mt _ K) ?_
      refine walk1 (k := ?_)
      repeat' first | refine And.intro ?_ ?_ | intro
      all_goals refine leaf ?_
      refine wps_mkSlU (by assumption) rfl rfl (by omega) fun id H' hh => ?_
      rw [Int.toNat_natCast, zero_row] at hh
      refine wps_b2s hh (l := zeroT i) (by show V.slice _ 0 (Int.toNat (i : Nat)) 1 = _; rw [zero_len, Int.toNat_natCast]) .here ?_
      refine walk1 (k := ?_)
      repeat' first | refine And.intro ?_ ?_ | intro
      all_goals refine leaf ?_
      refine callL (hap) ?_
      rintro v L' H' ⟨ws', rfl, rfl⟩ hh
      cases hr : rightN (nth names i) with
      | false =>
        have hno : takK K (nth names i) = false := by unfold takK; rw [hr]; simp
        rw [if_neg (by rw [hno]; decide)] at hacc
        rw [hno] at hh
        refine walk1 (k := ?_)
        repeat' first | refine And.intro ?_ ?_ | intro
        all_goals refine leaf ?_
        exact Nx.next hn ⟨ws', rfl, by rw [hacc]⟩
      | true =>
        have hyes : takK K (nth names i) = true := by unfold takK; rw [hr, ht]; rfl
        rw [if_pos hyes] at hacc
        rw [hyes, if_pos rfl] at hh
        refine walk1 (k := ?_)
        repeat' first | refine And.intro ?_ ?_ | intro
        all_goals refine leaf ?_
        refine wps_put (by assumption) (r := none) (es := (K.map mtV).map nvE) (es' := ((K ++ [(nth names i, i)]).map mtV).map nvE) rfl rfl (by rw [← hf]; exact find_mt _ K) (by simp [putE]; rfl) (.there (.there (.there (.there (.there .here1))))) fun _ hh => ?_
        refine walk1 (k := ?_)
        repeat' first | refine And.intro ?_ ?_ | intro
        all_goals refine leaf ?_
        refine callE (hrn) ?_
        refine walk1 (k := ?_)
        repeat' first | refine And.intro ?_ ?_ | intro
        all_goals refine leaf ?_
        by_cases hp : 0 < numOf w (nth names i)
        · have e1 : hasK w (K ++ [(nth names i, i)]) = hasK w K ++ [(numOf w (nth names i), i)] := by rw [hasK_app, hasK_one, if_pos hp]
          refine c_cond_t (by show V.bool _ = _; rw [decide_eq_true hp]) ?_
          refine walk1 (k := ?_)
          repeat' first | refine And.intro ?_ ?_ | intro
          all_goals refine leaf ?_
          refine wps_put (by assumption) (r := none) (es := (hasK w K).map hsE) (es' := (hasK w (K ++ [(nth names i, i)])).map hsE) rfl rfl (find_in_none (hasK_new ht hp)) (by rw [e1]; simp [putE]; rfl) (.there (.there (.there (.there .here1)))) fun _ hh => ?_
          refine walk1 (k := ?_)
          repeat' first | refine And.intro ?_ ?_ | intro
          all_goals refine leaf ?_
          exact Nx.next hn ⟨ws', rfl, by rw [hacc]⟩
        · have e1 : hasK w (K ++ [(nth names i, i)]) = hasK w K := by rw [hasK_app, hasK_one, if_neg hp, List.append_nil]
          refine c_cond_f (by show V.bool _ = _; rw [decide_eq_false hp]) ?_
          rw [← e1] at hh
          refine walk1 (k := ?_)
          repeat' first | refine And.intro ?_ ?_ | intro
          all_goals refine leaf ?_
          exact Nx.next hn ⟨ws', rfl, by rw [hacc]⟩
  · skip
    refine walk1 (k := ?_)
    repeat' first | refine And.intro ?_ ?_ | intro
    all_goals refine leaf ?_
    refine c_cond_f (by show V.bool _ = _; simp; omega) ?_
    refine walk1 (k := ?_)
    repeat' first | refine And.intro ?_ ?_ | intro
    all_goals refine leaf ?_
    have hie : i = names.length := by omega
    clear hi hn
    generalize accK names i = K at *
    have hal := all_prog d m ws (dskK K).waits.length (dskK K).room (dskK K).fuse (dskK K).down (dskK K).sure w e (by omega) (by have := hok.files; omega)
    have hla := last_prog d m ws (dskK K).waits.length (dskK K).room (dskK K).fuse (dskK K).down (dskK K).sure w e (by omega) (by have := hok.files; omega)
    have hsi := size_prog d m ws (dskK K) w e (by omega) hok
    have hcl := clear_prog d m ws (dskK K) w below e (by omega) hok
    have hlt := all_lt (w := w) hok.nd
    have hpos : ∀ n ∈ allL w (dskK K).sure, 0 < n := fun n h => by
      obtain ⟨s, _, h1, h2⟩ := all_mem.1 h
      omega
    have hval : ∀ n ∈ allL w (dskK K).sure, _ := fun n h => has_val hK.nd h
    have hrest := rest_spec w below (dskK K) rfl rfl hok.nd
    have hlen := has_len w K
    have hle := all_len w (dskK K).sure
    have hfl := hok.files
    refine callN (hal) ?_
    rintro v Lo H' ⟨o, rfl, rfl⟩ hh
    generalize hA : allL w (dskK K).sure = A at *
    refine walk1 (k := ?_)
    repeat' first | refine And.intro ?_ ?_ | intro
    all_goals refine leaf ?_
    refine loopN [1, 2, 7, 8, 9, 13, 14, 15, 16, 71, 72, 73] A.length (fun i vs L => vs = [.str w, .int .i64 below, .ptr d 0, .map hm, .map mm, .slice o 0 A.length 1, .int .i64 (sizeF (dskK K) w (A.take i) : Nat), .int .i64 (lastN A i), .int .i64 (cntB below (A.take i) : Nat), .slice o 0 A.length 1, .int .i64 A.length, .int .i64 (i : Nat)] ∧
        L = IL o true A :: (DK d m ws K ++ LK hm mm t e w names K))
      (Nx.here ⟨rfl, rfl⟩) ?_
    clear hh
    rintro k _ _ env H hi ⟨rfl, rfl⟩ hh
    simp only [puts]
    by_cases hn : k < A.length
    · have hmem := nth_mem hn
      obtain ⟨j, hf, hj, hv⟩ := hval _ hmem
      have hp := hpos _ hmem
      have hlast : lastN A k < nth A k := by
        unfold lastN
        split
        · exact hp
        · rw [List.pairwise_iff_getElem] at hlt
          rw [nth_getElem hn, nth_getElem (by omega)]
          exact hlt (k - 1) k (by omega) hn (by omega)
      have hl2 : lastN A (k + 1) = nth A k := rfl
      have hst := take_getD hn
      have hsz : sizeF (dskK K) w (A.take (k + 1)) = sizeF (dskK K) w (A.take k) + (nth (hasK w K) j).2 := by rw [hst, sizeF_snoc, hv]
      have hc := cntB_snoc below (A.take k) (nth A k)
      rw [← hst] at hc
      have hcl := cntB_le below (A.take k)
      have hsl := sizeF_le hok w (A.take k)
      have hfe := file_le hok (nameL w (nth A k))
      rw [← hv] at hfe
      rw [List.length_take] at hcl hsl
      refine walk1 (k := ?_)
      repeat' first | refine And.intro ?_ ?_ | intro
      all_goals refine leaf ?_
      refine c_cond_t (by show V.bool _ = _; simp; omega) ?_
      refine walk1 (k := ?_)
      repeat' first | refine And.intro ?_ ?_ | intro
      all_goals refine leaf ?_
      refine wps_lookF (by assumption) rfl (.there (.there (.there (.there .here)))) hf (e := hsE (nth (hasK w K) j)) (by rw [List.getElem?_map, getD_some hj]; rfl) ?_
      refine walk (k := ?_)
      repeat' first | refine And.intro ?_ ?_ | intro
      all_goals refine leaf ?_
      · exact absurd hlast (by omega)
      · rename_i _ hb
        rw [if_pos hb] at hc
        exact Nx.next hn ⟨by rw [hsz, hl2, hc]; rfl, rfl⟩
      · rename_i _ hb
        rw [if_neg hb] at hc
        exact Nx.next hn ⟨by rw [hsz, hl2, hc]; rfl, rfl⟩
    · skip
      refine walk1 (k := ?_)
      repeat' first | refine And.intro ?_ ?_ | intro
      all_goals refine leaf ?_
      refine c_cond_f (by show V.bool _ = _; simp; omega) ?_
      rw [List.take_of_length_le (by omega)] at *
      have hka : k = A.length := by omega
      subst hka
      refine walk1 (k := ?_)
      repeat' first | refine And.intro ?_ ?_ | intro
      all_goals refine leaf ?_
      have hla : CallsR Tryz.prog nfiles_Last [.ptr d 0, .str w] (DO d m ws (dskK K).waits.length (dskK K).room (dskK K).fuse (dskK K).down :: MO m (dskK K).sure :: LO e) fun v => v = .int .i64 (lastN A A.length) := hla
      obtain ⟨hr1, hr2, hr3⟩ := hrest
      have hr1 : goneF w below A (dskK K) = cntB below A := hr1
      rw [hr1] at hcl hr3
      have hok2 := clearF_ok w below A hok
      have hcb := cntB_le below A
      have hsl := sizeF_le hok w A
      generalize clearF w below A (dskK K) = D2 at *
      refine wps_slot (s := 105) (v := .bool false) (by show V.bool _ = _; simp [hlen]) ?_
      refine walk1 (k := ?_)
      repeat' first | refine And.intro ?_ ?_ | intro
      all_goals refine leaf ?_
      refine callE (hla) ?_
      refine walk1 (k := ?_)
      repeat' first | refine And.intro ?_ ?_ | intro
      all_goals refine leaf ?_
      refine wps_slot (s := 112) (v := .bool false) (by show V.bool _ = _; simp) ?_
      refine walk1 (k := ?_)
      repeat' first | refine And.intro ?_ ?_ | intro
      all_goals refine leaf ?_
      refine callE (hsi) ?_
      refine walk1 (k := ?_)
      repeat' first | refine And.intro ?_ ?_ | intro
      all_goals refine leaf ?_
      refine wps_slot (s := 119) (v := .bool false) (by show V.bool _ = _; simp) ?_
      refine walk1 (k := ?_)
      repeat' first | refine And.intro ?_ ?_ | intro
      all_goals refine leaf ?_
      refine callL (hcl) ?_
      rintro v L' H' ⟨rfl, rfl⟩ hh
      refine walk1 (k := ?_)
      repeat' first | refine And.intro ?_ ?_ | intro
      all_goals refine leaf ?_
      refine c_cond_f (by show V.bool _ = _; simp) ?_
      have hal2 := all_prog d m ws D2.waits.length D2.room D2.fuse D2.down D2.sure w e (by omega) (by have := hok2.files; omega)
      have hnm := dnames_prog d m ws D2.waits.length D2.room D2.fuse D2.down D2.sure (by have := hok2.files; omega)
      have hnl : (srtT (D2.sure.map (·.1))).length = D2.sure.length := by rw [(srtT_perm _).length_eq, List.length_map]
      have hkl : (dskK K).sure.length = K.length := List.length_map ..
      have hml : ((K.map mtV).map nvE).length = K.length := by simp
      have hsum := filt_sum A below
      have hge : ∀ n ∈ A.filter (fun n => decide (below ≤ n)), below ≤ n := fun n h => by simpa using (List.mem_filter.1 h).2
      have hcd : cntB below A = (A.filter fun n => decide (n < below)).length := rfl
      rw [← hcd] at hsum
      rw [hr2] at hal2
      generalize A.filter (fun n => decide (below ≤ n)) = B at *
      refine walk1 (k := ?_)
      repeat' first | refine And.intro ?_ ?_ | intro
      all_goals refine leaf ?_
      refine callN (hal2) ?_
      rintro v Lo H' ⟨o2, rfl, rfl⟩ hh
      refine walk1 (k := ?_)
      repeat' first | refine And.intro ?_ ?_ | intro
      all_goals refine leaf ?_
      refine wps_slot (s := 137) (v := .bool true) (by show V.bool _ = _; simp; omega) ?_
      refine walk1 (k := ?_)
      repeat' first | refine And.intro ?_ ?_ | intro
      all_goals refine leaf ?_
      by_cases h0 : B.length = 0
      · refine wps_slot (s := 141) (v := .bool true) (congrArg V.bool (beq_iff_eq.2 (by omega))) ?_
        refine walk1 (k := ?_)
        repeat' first | refine And.intro ?_ ?_ | intro
        all_goals refine leaf ?_
        refine callL (hnm) ?_
        rintro v L' H' ⟨o3, rfl, rfl⟩ hh
        refine walk1 (k := ?_)
        repeat' first | refine And.intro ?_ ?_ | intro
        all_goals refine leaf ?_
        exact doneR (congrArg V.bool (beq_iff_eq.2 (by omega)))
      · refine wps_slot (s := 141) (v := .bool false) (congrArg V.bool (beq_eq_false_iff_ne.2 (by omega))) ?_
        refine walk1 (k := ?_)
        repeat' first | refine And.intro ?_ ?_ | intro
        all_goals refine leaf ?_
        have h00 := hge _ (nth_mem (show 0 < B.length by omega))
        refine wps_slot (s := 149) (v := .bool true) (by show V.bool _ = _; simp; omega) ?_
        refine walk1 (k := ?_)
        repeat' first | refine And.intro ?_ ?_ | intro
        all_goals refine leaf ?_
        refine callL (hnm) ?_
        rintro v L' H' ⟨o3, rfl, rfl⟩ hh
        refine walk1 (k := ?_)
        repeat' first | refine And.intro ?_ ?_ | intro
        all_goals refine leaf ?_
        exact doneR (congrArg V.bool (beq_iff_eq.2 (by omega)))
theorem txOf {cs : List V} (h : Fits [.s] cs) : ∃ j : Tx, cs = txC j := by
  obtain ⟨_, _, rfl, ⟨a, rfl, _⟩, h0⟩ := h.cons
  obtain rfl := h0.nil
  exact ⟨a, rfl⟩
theorem walkFilesAll (vs : List V) (H : Heap) (e : Nat) (hg : Givens H 1 [.rows [.s], .one .s, .one (.i .i64)] vs) (hh : Has H (LO e)) : CallsC Tryz.prog nlaw08_FilesAll vs H fun v _ => v = .bool true := by
  obtain ⟨_, vs, rfl, ⟨rs, hf, hlen, hr⟩, hg1⟩ := hg.cons
  obtain ⟨_, vs, rfl, ⟨w, rfl, _⟩, hg2⟩ := hg1.cons
  obtain ⟨_, vs, rfl, ⟨n, rfl, _⟩, hg3⟩ := hg2.cons
  obtain rfl := hg3.nil
  obtain ⟨l, rfl⟩ := rowsOf txC (fun r hr => txOf (hf r hr))
  obtain ⟨t, rfl, ht1, ht⟩ := givenRowsA hr
  have hL := ht (LO e) hh (fun x hx => by
    right
    simp only [libOb, List.mem_cons, List.not_mem_nil, or_false] at hx
    rcases hx with rfl | rfl
    · exact (show (2 * gErr + 1 : Nat) ≠ 2 * 1 by decide)
    · exact (show (2 * gPow + 1 : Nat) ≠ 2 * 1 by decide))
  exact (CallsR.reads (R := []) (flaw_prog t l w n e) (by rwa [List.append_nil])).mono fun _ _ h => h.1
end Go.Proofs.YtdpnaneedjoboaaGreatDoor
