/-
  The law of a turned byte of a log.
-/
import Derived.Test.YtkfhgpegnnokgaaGreatDoorRotW
import Derived.Test.YtkfhgpegnnokgaaGreatDoorGlbW
namespace Go.Proofs.YtkfhgpegnnokgaaGreatDoor
open Go Go.CM
set_option maxRecDepth 100000
set_option maxHeartbeats 4000000

theorem logS_ok {segs : List (List Tx)} (hl : segs.length ≤ 12) (hn : segs.flatten.length ≤ 12) (hlen : ∀ r ∈ segs.flatten, r.length ≤ 200) : DOk (logS segs) := by
  have h1 := sureI_sum segs 1 fun c hc r hr => hlen r (List.mem_flatten.2 ⟨c, hc, hr⟩)
  refine ⟨?_, ?_, ?_, fun w hw => (by cases hw), fun w hw => (by cases hw), by show (0 : Int) ≤ 9000; omega, by show (9000 : Int) ≤ 60000; omega, by show (-1 : Int) ≤ -1; omega, by show (-1 : Int) ≤ _; omega⟩
  · show 0 + sumL (sureI 1 segs) ≤ _
    omega
  · show (sureI 1 segs).length ≤ 16
    rw [sureI_len]; omega
  · show ((sureI 1 segs).map (·.1)).Nodup
    rw [sureI_keys]; exact up_names (by omega) (by omega)
theorem LOk.dok {olds : List (List Tx)} {cur : List Tx} (h : LOk olds cur) : DOk (logD olds cur) := by
  obtain ⟨f1, f2, f3, f4, f5, f6⟩ := h.facts
  have ho := h.olds
  have hn := h.num
  have hnd : ((logD olds cur).sure.map (·.1)).Nodup := by rw [logD_keys]; exact up_names (by omega) (by push_cast; omega)
  refine ⟨by omega, by omega, hnd, fun w hw => ?_, fun w hw => ?_, by show (0 : Int) ≤ 9000; omega, by show (9000 : Int) ≤ 60000; omega, by show (-1 : Int) ≤ -1; omega, by show (-1 : Int) ≤ _; omega⟩
  · obtain ⟨r, _, rfl⟩ := List.mem_map.1 (show w ∈ cur.map fun r => (segN (olds.length + 1), makeT r) from hw)
    exact mk_ne r
  · obtain ⟨r, _, rfl⟩ := List.mem_map.1 (show w ∈ cur.map fun r => (segN (olds.length + 1), makeT r) from hw)
    exact hasT_iff.1 f3
def St (R : List Tx) (last : Int) (D : Dsk) : Prop := (R = [] ∧ last = 1 ∧ D = logS []) ∨ ∃ olds cur, LOk olds cur ∧ olds.flatten ++ cur = R ∧ last = olds.length + 1 ∧ D = logD olds cur
theorem St.ok {R : List Tx} {last : Int} {D : Dsk} (h : St R last D) : DOk D ∧ 1 ≤ last ∧ last ≤ 99999 := by
  rcases h with ⟨_, rfl, rfl⟩ | ⟨olds, cur, h, _, rfl, rfl⟩
  · exact ⟨logS_ok (by decide) (by decide) (by simp), by omega, by omega⟩
  · have := h.olds
    exact ⟨h.dok, by omega, by omega⟩
theorem St.app {R : List Tx} {last : Int} {D : Dsk} (h : St R last D) {r : Tx} (hr : r.length ≤ 200) (hn : R.length < 12) (limit : Int) : ∃ last' D', St (R ++ [r]) last' D' ∧ appS D last limit r 0 = ⟨0, last', D'⟩ := by
  rcases h with ⟨rfl, rfl, rfl⟩ | ⟨olds, cur, h, rfl, rfl, rfl⟩
  · exact ⟨_, _, .inr ⟨[], [r], ⟨by simp, by simp, by simp, by simpa using hr⟩, rfl, rfl, rfl⟩, logZ_app hr limit⟩
  · obtain ⟨o2, c2, h2, e2, e3⟩ := h.app hr hn limit
    exact ⟨_, _, .inr ⟨o2, c2, h2, e2, rfl, rfl⟩, e3⟩
theorem St.sync {R : List Tx} {last : Int} {D : Dsk} (h : St R last D) : ∃ segs : List (List Tx), segs.length ≤ 12 ∧ segs.flatten = R ∧ (if sizeS D last < 0 then 0 else readyE D (segN last)) = 0 ∧ (if sizeS D last < 0 then D else syncR D (segN last)) = logS segs := by
  rcases h with ⟨rfl, rfl, rfl⟩ | ⟨olds, cur, h, rfl, rfl, rfl⟩
  · exact ⟨[], by decide, rfl, rfl, rfl⟩
  · obtain ⟨h1, h2, h3⟩ := h.sync
    refine ⟨olds ++ [cur], h.segs.2, h.segs.1, by rw [if_neg h1, h2], by rw [if_neg h1, h3]⟩
theorem St.short {R : List Tx} {last : Int} {D : Dsk} (h : St R last D) : ∀ r ∈ R, r.length ≤ 200 := by
  rcases h with ⟨rfl, _, _⟩ | ⟨olds, cur, h, rfl, _, _⟩
  · simp
  · exact h.len
theorem hrotm {D : Dsk} {f a : Int} (h : rotP D f a) : nth (namesD D) f.toNat ∈ D.sure.map (·.1) ∧ a.toNat < (getT (nth (namesD D) f.toNat) D.sure).length := by
  obtain ⟨h1, h2, h3, h4⟩ := h
  exact ⟨(srtT_perm _).mem_iff.1 (nth_mem (l := namesD D) (by omega)), by omega⟩
theorem byU_ne {b : Int} (h0 : 0 ≤ b) (h1 : b ≤ 255) (h : b ≠ 0) : byU b ≠ 0 := fun k => by
  have h2 : (byU b).toNat = (b % 256).toNat % 256 := UInt8.toNat_ofNat'
  rw [k] at h2
  have h3 : (0 : UInt8).toNat = 0 := rfl
  rw [h3] at h2
  omega
abbrev SpO (q : Nat) (f a b : Int) : Ob := (q, .cells true [.int .i64 f, .int .i64 a, .int .u8 b])
theorem rlaw_prog (t : Nat) (l : List Tx) (limit f a b : Int) (hb0 : 0 ≤ b) (hb1 : b ≤ 255) (e : Nat) : CallsR Tryz.prog nlaw11_SeglogRot [.slice t 0 l.length 1, .int .i64 limit, .agg [.int .i64 f, .int .i64 a, .int .u8 b]] (TL t false l :: LO e) fun v => v = .bool true := by
  have hnew : CallsL Tryz.prog ndisk_New [.int .i64 9000] [] fun v L' => ∃ d m, v = .ptr d 0 ∧ L' = DL d m 0 (logS []) := dnew_prog 9000
  have hopen := fun d m => open_new d m 0 (logS []) rfl (logS_ok (by decide) (by decide) (by simp)) limit e
  refine slaw11_SeglogRot fun H hh => ?_
  dsimp only [claw11_SeglogRot]
  refine walk1 (k := ?_)
  repeat' first | refine And.intro ?_ ?_ | intro
  all_goals refine leaf ?_
  rename_i q _ _
  refine callE ((lawake_prog e)) ?_
  refine walk1 (k := ?_)
  repeat' first | refine And.intro ?_ ?_ | intro
  all_goals refine leaf ?_
  by_cases hl12 : 12 < l.length
  · refine wps_slot (s := 21) (v := .bool true) (congrArg V.bool (decide_eq_true (by omega))) ?_
    refine walk1 (k := ?_)
    repeat' first | refine And.intro ?_ ?_ | intro
    all_goals refine leaf ?_
    exact doneR rfl
  refine wps_slot (s := 21) (v := .bool false) (congrArg V.bool (decide_eq_false (by omega))) ?_
  refine walk1 (k := ?_)
  repeat' first | refine And.intro ?_ ?_ | intro
  all_goals refine leaf ?_
  by_cases hb : b = 0
  · subst hb
    refine c_cond_t (by rfl) ?_
    refine walk1 (k := ?_)
    repeat' first | refine And.intro ?_ ?_ | intro
    all_goals refine leaf ?_
    exact doneR rfl
  refine c_cond_f (by show V.bool _ = _; simpa using hb) ?_
  refine walk1 (k := ?_)
  repeat' first | refine And.intro ?_ ?_ | intro
  all_goals refine leaf ?_
  refine callL (hnew) ?_
  rintro v L' H' ⟨d, m, rfl, rfl⟩ hh
  refine walk1 (k := ?_)
  repeat' first | refine And.intro ?_ ?_ | intro
  all_goals refine leaf ?_
  refine callL (hopen d m) ?_
  rintro v L' H' ⟨g, o, rfl, rfl⟩ hh
  refine walk1 (k := ?_)
  repeat' first | refine And.intro ?_ ?_ | intro
  all_goals refine leaf ?_
  refine loopN [1, 5, 7, 8, 34, 35, 36] l.length (fun i vs L => ∃ ws last D, St (l.take i) last D ∧ vs = [.int .i64 limit, .ptr q 0, .ptr d 0, .ptr g 0, .slice t 0 l.length 1, .int .i64 l.length, .int .i64 (i : Nat)] ∧
      L = SpO q f a b :: GO g d 1 last (limI limit) :: DO d m ws D.waits.length D.room D.fuse D.down :: MO m D.sure :: WO ws D.waits :: TL t false l :: LO e)
    (Nx.here ⟨0, 1, logS [], .inl ⟨rfl, rfl, rfl⟩, rfl, rfl⟩) ?_
  clear hh
  rintro i _ _ env H hi ⟨ws, last, D, hSt, rfl, rfl⟩ hh
  simp only [puts]
  obtain ⟨hok, hl0, hl1⟩ := hSt.ok
  by_cases hn : i < l.length
  · have hst := take_getD hn
    refine walk1 (k := ?_)
    repeat' first | refine And.intro ?_ ?_ | intro
    all_goals refine leaf ?_
    refine c_cond_t (by show V.bool _ = _; simp; omega) ?_
    refine walk (k := ?_)
    repeat' first | refine And.intro ?_ ?_ | intro
    all_goals refine leaf ?_
    · exact doneR rfl
    rename_i h200
    obtain ⟨last', D', hSt', hap⟩ := hSt.app (r := nth l i) (by omega) (by rw [List.length_take]; omega) (limI limit)
    rw [← hst] at hSt'
    have h1 := sappend_prog g d m ws D 1 last (limI limit) (nth l i) 0 e (by omega) hl0 hl1 hok
    rw [hap] at h1
    refine callL (h1) ?_
    rintro v L' H' ⟨ws', rfl, rfl⟩ hh
    refine walk1 (k := ?_)
    repeat' first | refine And.intro ?_ ?_ | intro
    all_goals refine leaf ?_
    exact Nx.next hn ⟨ws', last', D', hSt', rfl, rfl⟩
  · skip
    refine walk1 (k := ?_)
    repeat' first | refine And.intro ?_ ?_ | intro
    all_goals refine leaf ?_
    refine c_cond_f (by show V.bool _ = _; simp; omega) ?_
    refine walk1 (k := ?_)
    repeat' first | refine And.intro ?_ ?_ | intro
    all_goals refine leaf ?_
    rw [List.take_of_length_le (by omega)] at hSt
    obtain ⟨segs, hs1, hs2, hs3, hs4⟩ := hSt.sync
    have h1 := ssync_prog g d m ws D 1 last (limI limit) e hok
    rw [hs3, hs4] at h1
    have hfl : segs.flatten.length ≤ 12 := by rw [hs2]; omega
    have h200 : ∀ r ∈ segs.flatten, r.length ≤ 200 := by rw [hs2]; exact hSt.short
    have hok2 := logS_ok hs1 hfl h200
    have hro := drot_prog d m ws (logS segs) f a b hok2
    refine callL (h1) ?_
    rintro v L' H' ⟨rfl, rfl⟩ hh
    refine walk1 (k := ?_)
    repeat' first | refine And.intro ?_ ?_ | intro
    all_goals refine leaf ?_
    by_cases hp : rotP (logS segs) f a
    · rw [decide_eq_true hp, show rotD (logS segs) f a b = ⟨setT (nth (namesD (logS segs)) f.toNat) (turnT (getT (nth (namesD (logS segs)) f.toNat) (logS segs).sure) a.toNat (byU b)) (logS segs).sure, [], 9000, -1, false⟩ from if_pos hp] at hro
      have hD3 := rot_open hs1 h200 (s := nth (namesD (logS segs)) f.toNat) (p := a.toNat) (b := byU b) (hrotm hp).1 (hrotm hp).2 (byU_ne hb0 hb1 hb) ⟨setT (nth (namesD (logS segs)) f.toNat) (turnT (getT (nth (namesD (logS segs)) f.toNat) (logS segs).sure) a.toNat (byU b)) (logS segs).sure, [], 9000, 0, false⟩ rfl
      have hok3 : DOk ⟨setT (nth (namesD (logS segs)) f.toNat) (turnT (getT (nth (namesD (logS segs)) f.toNat) (logS segs).sure) a.toNat (byU b)) (logS segs).sure, [], 9000, 0, false⟩ := by
        have h3 := hok2.rot f a b
        rw [show rotD (logS segs) f a b = ⟨setT (nth (namesD (logS segs)) f.toNat) (turnT (getT (nth (namesD (logS segs)) f.toNat) (logS segs).sure) a.toNat (byU b)) (logS segs).sure, [], 9000, -1, false⟩ from if_pos hp] at h3
        exact ⟨h3.used, h3.files, h3.nd, h3.ne, h3.inn, h3.room0, h3.room1, by show (-1 : Int) ≤ 0; omega, by show (0 : Int) ≤ _; omega⟩
      generalize setT (nth (namesD (logS segs)) f.toNat) (turnT (getT (nth (namesD (logS segs)) f.toNat) (logS segs).sure) a.toNat (byU b)) (logS segs).sure = S at *
      have hop := sopen_prog d m ws ⟨S, [], 9000, 0, false⟩ 1 limit e (by omega) (by omega) hok3
      rw [hD3.1] at hop
      dsimp only at hop
      rw [hD3.2.1, hD3.2.2] at hop
      have hfu := dfuse_prog d m ws 0 9000 (-1) false 0
      rw [show (if false = true then (-1 : Int) else max 0 (-1)) = 0 from rfl] at hfu
      refine callL (hro) ?_
      rintro v L' H' ⟨rfl, rfl⟩ hh
      refine walk1 (k := ?_)
      repeat' first | refine And.intro ?_ ?_ | intro
      all_goals refine leaf ?_
      refine callL (hfu) ?_
      rintro v L' H' rfl hh
      refine walk1 (k := ?_)
      repeat' first | refine And.intro ?_ ?_ | intro
      all_goals refine leaf ?_
      refine callL (hop) ?_
      rintro v L' H' ⟨hq, _⟩ hh
      obtain ⟨rfl, rfl⟩ := hq (by decide)
      refine walk1 (k := ?_)
      repeat' first | refine And.intro ?_ ?_ | intro
      all_goals refine leaf ?_
      refine callE (slast_nil) ?_
      refine walk1 (k := ?_)
      repeat' first | refine And.intro ?_ ?_ | intro
      all_goals refine leaf ?_
      refine callE ((ddown_prog d m ws 0 9000 0 false)) ?_
      refine walk1 (k := ?_)
      repeat' first | refine And.intro ?_ ?_ | intro
      all_goals refine leaf ?_
      exact doneR rfl
    · rw [decide_eq_false hp, show rotD (logS segs) f a b = logS segs from if_neg hp] at hro
      refine callL (hro) ?_
      rintro v L' H' ⟨rfl, rfl⟩ hh
      refine walk1 (k := ?_)
      repeat' first | refine And.intro ?_ ?_ | intro
      all_goals refine leaf ?_
      have hnm := dnames_prog d m ws 0 9000 (-1) false (logS segs).sure (by have := hok2.files; omega)
      have hn2 : srtT ((logS segs).sure.map (·.1)) = namesD (logS segs) := rfl
      rw [hn2] at hnm
      by_cases hf : f < 0
      · refine wps_slot (s := 66) (v := .bool true) (congrArg V.bool (decide_eq_true hf)) ?_
        refine walk1 (k := ?_)
        repeat' first | refine And.intro ?_ ?_ | intro
        all_goals refine leaf ?_
        exact doneR rfl
      refine wps_slot (s := 66) (v := .bool false) (congrArg V.bool (decide_eq_false hf)) ?_
      refine walk1 (k := ?_)
      repeat' first | refine And.intro ?_ ?_ | intro
      all_goals refine leaf ?_
      by_cases ha : a < 0
      · refine wps_slot (s := 71) (v := .bool true) (congrArg V.bool (decide_eq_true ha)) ?_
        refine walk1 (k := ?_)
        repeat' first | refine And.intro ?_ ?_ | intro
        all_goals refine leaf ?_
        exact doneR rfl
      refine wps_slot (s := 71) (v := .bool false) (congrArg V.bool (decide_eq_false ha)) ?_
      refine walk1 (k := ?_)
      repeat' first | refine And.intro ?_ ?_ | intro
      all_goals refine leaf ?_
      refine callK hnm ?_
      rintro v L' H' ⟨o2, rfl, rfl⟩ hh
      refine walk1 (k := ?_)
      repeat' first | refine And.intro ?_ ?_ | intro
      all_goals refine leaf ?_
      by_cases hfn : (namesD (logS segs)).length ≤ f
      · refine wps_slot (s := 79) (v := .bool true) (congrArg V.bool (decide_eq_true hfn)) ?_
        refine walk1 (k := ?_)
        repeat' first | refine And.intro ?_ ?_ | intro
        all_goals refine leaf ?_
        exact doneR rfl
      refine wps_slot (s := 79) (v := .bool false) (congrArg V.bool (decide_eq_false hfn)) ?_
      refine walk1 (k := ?_)
      repeat' first | refine And.intro ?_ ?_ | intro
      all_goals refine leaf ?_
      refine callK hnm ?_
      rintro v L' H' ⟨o3, rfl, rfl⟩ hh
      refine walk1 (k := ?_)
      repeat' first | refine And.intro ?_ ?_ | intro
      all_goals refine leaf ?_
      refine callE ((dsure_prog d m ws 0 9000 (-1) false (logS segs).sure (nth (namesD (logS segs)) f.toNat))) ?_
      refine walk1 (k := ?_)
      repeat' first | refine And.intro ?_ ?_ | intro
      all_goals refine leaf ?_
      exact doneR (congrArg V.bool (decide_eq_true (Int.not_lt.1 fun k => hp ⟨by omega, by omega, by omega, k⟩)))
theorem textOf {cs : List V} (h : Fits [.s] cs) : ∃ j : Tx, cs = txC j := by
  obtain ⟨_, _, rfl, ⟨a, rfl, _⟩, h0⟩ := h.cons
  obtain rfl := h0.nil
  exact ⟨a, rfl⟩
theorem walkSeglogRot (vs : List V) (H : Heap) (e : Nat) (hg : Givens H 1 [.rows [.s], .one (.i .i64), .agg [.i .i64, .i .i64, .i .u8]] vs) (hh : Has H (LO e)) : CallsC Tryz.prog nlaw11_SeglogRot vs H fun v _ => v = .bool true := by
  obtain ⟨_, vs, rfl, ⟨rs, hf, hlen, hr⟩, hg1⟩ := hg.cons
  obtain ⟨_, vs, rfl, ⟨n, rfl, _⟩, hg2⟩ := hg1.cons
  obtain ⟨_, vs, rfl, ⟨cs, rfl, hfc⟩, hg3⟩ := hg2.cons
  obtain rfl := hg3.nil
  obtain ⟨_, _, rfl, ⟨a1, rfl, _⟩, hc1⟩ := hfc.cons
  obtain ⟨_, _, rfl, ⟨a2, rfl, _⟩, hc2⟩ := hc1.cons
  obtain ⟨_, _, rfl, ⟨a3, rfl, hw3⟩, hc3⟩ := hc2.cons
  obtain rfl := hc3.nil
  simp [Lit.wf, IntKind.min, IntKind.max, IntKind.signed, IntKind.bits] at hw3
  obtain ⟨l, rfl⟩ := rowsOf txC (fun r hr => textOf (hf r hr))
  obtain ⟨t, rfl, ht1, ht⟩ := givenRowsA hr
  have hL := ht (LO e) hh (fun x hx => by
    right
    simp only [libOb, List.mem_cons, List.not_mem_nil, or_false] at hx
    rcases hx with rfl | rfl
    · exact (show (2 * gErr + 1 : Nat) ≠ 2 * 1 by decide)
    · exact (show (2 * gPow + 1 : Nat) ≠ 2 * 1 by decide))
  exact (CallsR.reads (R := []) (rlaw_prog t l n a1 a2 a3 (by omega) (by omega) e) (by rwa [List.append_nil])).mono fun _ _ h => h.1
end Go.Proofs.YtkfhgpegnnokgaaGreatDoor
