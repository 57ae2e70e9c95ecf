/-
  Texts joined: Whatever records come, each is taken, or refused, as the document says. Records as a law's inputs. Whatever records come, each is taken, or refused, as the document says: any inputs.
-/
import Derived.Test.YtjgcgepfidcihaaGreatDoorOfC
import Derived.Test.YtjgcgepfidcihaaGreatDoorLawS
import Derived.Test.YtjgcgepfidcihaaGreatDoorEntD
import Derived.Test.YtjgcgepfidcihaaGreatDoorCmE
import Derived.Test.YtjgcgepfidcihaaGreatDoorCmG
namespace Go.Proofs.YtjgcgepfidcihaaGreatDoor
open Go Go.CM
set_option maxRecDepth 100000
set_option maxHeartbeats 4000000

theorem nextV_tup (l : List Entry) (t : Int) : ∃ a b, nextV l t = .tup [.int .i64 a, .bool b] := by
  unfold nextV
  split
  · exact ⟨_, _, rfl⟩
  · exact ⟨_, _, rfl⟩
theorem runs_prog (most : Int) (s : Nat) (b : Bool) (l : List Rec) : CallsR Tryz.prog nlaw18_StoreRuns [.int .i64 most, .slice s 0 l.length 15] [RL s b l] fun v => v = .bool true := by
  have h0 := awake_prog
  have h1 := small18_prog s b l 60 (by decide)
  refine slaw18_StoreRuns fun H hh => ?_
  dsimp only [claw18_StoreRuns]
  refine walk1 (k := ?_)
  repeat' first | refine And.intro ?_ ?_ | intro
  all_goals refine leaf ?_
  refine callE (h0) ?_
  refine walk1 (k := ?_)
  repeat' first | refine And.intro ?_ ?_ | intro
  all_goals refine leaf ?_
  refine callR (h1) ?_
  rintro v ⟨c, rfl, hb⟩
  cases c with
  | false =>
    refine walk1 (k := ?_)
    repeat' first | refine And.intro ?_ ?_ | intro
    all_goals refine leaf ?_
    exact doneR rfl
  | true =>
    obtain ⟨hl, hsm⟩ := hb rfl
    clear hb h0 h1
    refine walk1 (k := ?_)
    repeat' first | refine And.intro ?_ ?_ | intro
    all_goals refine leaf ?_
    refine callL (snew_prog most) ?_
    rintro v L0 H' ⟨sid, rfl, hst⟩ hh
    refine walk1 (k := ?_)
    repeat' first | refine And.intro ?_ ?_ | intro
    all_goals refine leaf ?_
    rename_i w _ hh
    have hw0 : w ≠ 0 := hh.ne0 (b := true) (cs := [.int .i64 most, .nils, .int .i64 0]) (by simp) (by simp)
    obtain ⟨H2, hwk, hh2⟩ := Has.wk (hh.ghost true) hw0 (o := .cells true [.int .i64 most, .nils, .int .i64 0]) (o' := .cells true [.int .i64 most, .slice 0 0 0 14, .int .i64 0]) (L' := (0, .cells true []) :: (w, .cells true [.int .i64 most, .slice 0 0 0 14, .int .i64 0]) :: (L0 ++ [RL s b l])) (by exact .there .here1) (.cells _ _ (Wks.wkp (.cons (Wk.refl _) (.cons (Wk.nils 0 14) (.cons (Wk.refl _) .nil)))))
    refine C.wk (fun _ => Wk.refl _) hwk ?_
    refine loopN [5, 6, 25, 26, 27] l.length (fun i vs L => ∃ st L0 o, SOk st ∧ StO sid st L0 ∧ vs = [.ptr sid 0, .ptr w 0, .slice s 0 l.length 15, .int .i64 l.length, .int .i64 (i : Nat)] ∧ L = WO w st o :: EL o true st.l :: RL s b l :: L0)
      (Nx.intro (i := 0) rfl ⟨⟨most, [], 0⟩, L0, 0, SOk.new most, hst, rfl, rfl⟩ hh2) ?_
    clear hh hh2 hst hw0 hwk
    rintro i _ _ env H hi ⟨st, L0, o, hok, hst, rfl, rfl⟩ hh
    simp only [puts]
    by_cases hn : i < l.length
    · have hsr := hsm _ (nth_mem hn)
      have hck := scheck_prog sid st L0 (nth l i) hst hok (by omega)
      have hap := sapply_prog sid st L0 (nth l i) hst hok (by omega)
      have hwp := wapp_prog w o st (nth l i) hok (by omega)
      have hok2 := hok.app (nth l i)
      have hre : (nth l i).enc = [.int .i64 (nth l i).kind, .int .i64 (nth l i).e.tenant, .str (nth l i).e.key, .int .i64 (nth l i).e.state, .int .i64 (nth l i).e.epoch, .int .i64 (nth l i).e.token, .int .i64 (nth l i).e.point, .str (nth l i).e.print, .int .i64 (nth l i).e.lease, .int .i64 (nth l i).e.expiry, .int .i64 (nth l i).e.status, .str (nth l i).e.text, .str (nth l i).e.method, .str (nth l i).e.path, .str (nth l i).e.body] := rfl
      rw [hre] at hck hap hwp
      refine walk1 (k := ?_)
      repeat' first | refine And.intro ?_ ?_ | intro
      all_goals refine leaf ?_
      refine c_cond_t (by show V.bool _ = _; simp; omega) ?_
      refine walk1 (k := ?_)
      repeat' first | refine And.intro ?_ ?_ | intro
      all_goals refine leaf ?_
      clear hre
      generalize nth l i = r at *
      generalize chkI st r = ck at *
      generalize appS st r = st2 at *
      have hlen2 := hok2.len
      refine callE (hck) ?_
      refine walk1 (k := ?_)
      repeat' first | refine And.intro ?_ ?_ | intro
      all_goals refine leaf ?_
      refine callL (hwp) ?_
      rintro v L' H' ⟨o', rfl, rfl⟩ hh
      clear hwp hck
      refine walk1 (k := ?_)
      repeat' first | refine And.intro ?_ ?_ | intro
      all_goals refine leaf ?_
      refine wps_slot (s := 40) (v := .bool false) (by show V.bool _ = _; simp) ?_
      refine walk1 (k := ?_)
      repeat' first | refine And.intro ?_ ?_ | intro
      all_goals refine leaf ?_
      refine callL (hap) ?_
      rintro v L1 H' ⟨rfl, hst2⟩ hh
      clear hap hst
      refine walk1 (k := ?_)
      repeat' first | refine And.intro ?_ ?_ | intro
      all_goals refine leaf ?_
      refine c_cond_f (by show V.bool _ = _; simp) ?_
      refine walk1 (k := ?_)
      repeat' first | refine And.intro ?_ ?_ | intro
      all_goals refine leaf ?_
      have hn1 := snext_prog sid st2 L1 r.e.tenant hst2 hok2
      have hn2 := wnext_prog w o' st2 r.e.tenant (by omega)
      obtain ⟨na, nb, hnv⟩ := nextV_tup st2.l r.e.tenant
      rw [hnv] at hn1 hn2
      have hle := slen_prog sid st2 L1 hst2
      have htp := stop_prog sid st2 L1 hst2
      have hu1 := sused_prog sid st2 L1 r.e.tenant hst2 hok2
      have hu2 := wused_prog w o' st2 r.e.tenant (by omega)
      have hal := sall_prog sid st2 L1 hst2 hok2
      refine callE (hn1) ?_
      refine walk1 (k := ?_)
      repeat' first | refine And.intro ?_ ?_ | intro
      all_goals refine leaf ?_
      refine callE (hn2) ?_
      refine walk1 (k := ?_)
      repeat' first | refine And.intro ?_ ?_ | intro
      all_goals refine leaf ?_
      refine wps_slot (s := 66) (v := .bool false) (by show V.bool _ = _; simp) ?_
      refine walk1 (k := ?_)
      repeat' first | refine And.intro ?_ ?_ | intro
      all_goals refine leaf ?_
      refine wps_slot (s := 71) (v := .bool false) (by cases nb <;> rfl) ?_
      refine walk1 (k := ?_)
      repeat' first | refine And.intro ?_ ?_ | intro
      all_goals refine leaf ?_
      refine callE (hle) ?_
      refine walk1 (k := ?_)
      repeat' first | refine And.intro ?_ ?_ | intro
      all_goals refine leaf ?_
      refine wps_slot (s := 81) (v := .bool false) (by show V.bool _ = _; simp) ?_
      refine walk1 (k := ?_)
      repeat' first | refine And.intro ?_ ?_ | intro
      all_goals refine leaf ?_
      refine callE (htp) ?_
      refine walk1 (k := ?_)
      repeat' first | refine And.intro ?_ ?_ | intro
      all_goals refine leaf ?_
      refine wps_slot (s := 90) (v := .bool false) (by show V.bool _ = _; simp) ?_
      refine walk1 (k := ?_)
      repeat' first | refine And.intro ?_ ?_ | intro
      all_goals refine leaf ?_
      refine callE (hu1) ?_
      refine walk1 (k := ?_)
      repeat' first | refine And.intro ?_ ?_ | intro
      all_goals refine leaf ?_
      refine callE (hu2) ?_
      refine walk1 (k := ?_)
      repeat' first | refine And.intro ?_ ?_ | intro
      all_goals refine leaf ?_
      refine wps_slot (s := 103) (v := .bool false) (by show V.bool _ = _; simp) ?_
      refine walk1 (k := ?_)
      repeat' first | refine And.intro ?_ ?_ | intro
      all_goals refine leaf ?_
      refine callN (hal) ?_
      rintro v Lo H' ⟨o3, rfl, rfl⟩ hh
      have hsa := rsameE_prog o3 o' true true st2.l st2.l (by omega)
      rw [decide_eq_true rfl] at hsa
      refine walk1 (k := ?_)
      repeat' first | refine And.intro ?_ ?_ | intro
      all_goals refine leaf ?_
      refine callE (hsa) ?_
      refine walk1 (k := ?_)
      repeat' first | refine And.intro ?_ ?_ | intro
      all_goals refine leaf ?_
      exact Nx.next hn ⟨st2, L1, o', hok2, hst2, rfl, rfl⟩
    · skip
      refine walk1 (k := ?_)
      repeat' first | refine And.intro ?_ ?_ | intro
      all_goals refine leaf ?_
      refine c_cond_f (by show V.bool _ = _; simp; omega) ?_
      refine walk1 (k := ?_)
      repeat' first | refine And.intro ?_ ?_ | intro
      all_goals refine leaf ?_
      exact doneR rfl
end Go.Proofs.YtjgcgepfidcihaaGreatDoor

namespace Go.Proofs.YtjgcgepfidcihaaGreatDoor
open Go Go.CM
set_option maxRecDepth 100000
set_option maxHeartbeats 4000000

theorem entOf {cs : List V} (h : Fits [.i .i64, .s, .i .i64, .i .i64, .i .i64, .i .i64, .s, .i .i64, .i .i64, .i .i64, .s, .s, .s, .s] cs) : ∃ j : Entry, cs = j.enc := by
  obtain ⟨_, _, rfl, ⟨xa, rfl, _⟩, h0⟩ := h.cons
  obtain ⟨_, _, rfl, ⟨xb, rfl, _⟩, h1⟩ := h0.cons
  obtain ⟨_, _, rfl, ⟨xc, rfl, _⟩, h2⟩ := h1.cons
  obtain ⟨_, _, rfl, ⟨xd, rfl, _⟩, h3⟩ := h2.cons
  obtain ⟨_, _, rfl, ⟨xe, rfl, _⟩, h4⟩ := h3.cons
  obtain ⟨_, _, rfl, ⟨xf, rfl, _⟩, h5⟩ := h4.cons
  obtain ⟨_, _, rfl, ⟨xg, rfl, _⟩, h6⟩ := h5.cons
  obtain ⟨_, _, rfl, ⟨xh, rfl, _⟩, h7⟩ := h6.cons
  obtain ⟨_, _, rfl, ⟨xi, rfl, _⟩, h8⟩ := h7.cons
  obtain ⟨_, _, rfl, ⟨xj, rfl, _⟩, h9⟩ := h8.cons
  obtain ⟨_, _, rfl, ⟨xk, rfl, _⟩, h10⟩ := h9.cons
  obtain ⟨_, _, rfl, ⟨xl, rfl, _⟩, h11⟩ := h10.cons
  obtain ⟨_, _, rfl, ⟨xm, rfl, _⟩, h12⟩ := h11.cons
  obtain ⟨_, _, rfl, ⟨xn, rfl, _⟩, h13⟩ := h12.cons
  obtain rfl := h13.nil
  exact ⟨⟨xa, xb, xc, xd, xe, xf, xg, xh, xi, xj, xk, xl, xm, xn⟩, rfl⟩
theorem recOf {cs : List V} (h : Fits [.i .i64, .i .i64, .s, .i .i64, .i .i64, .i .i64, .i .i64, .s, .i .i64, .i .i64, .i .i64, .s, .s, .s, .s] cs) : ∃ j : Rec, cs = j.enc := by
  obtain ⟨_, _, rfl, ⟨a, rfl, _⟩, h1⟩ := h.cons
  obtain ⟨e, rfl⟩ := entOf h1
  exact ⟨⟨a, e⟩, rfl⟩
end Go.Proofs.YtjgcgepfidcihaaGreatDoor

namespace Go.Proofs.YtjgcgepfidcihaaGreatDoor
open Go Go.CM
set_option maxRecDepth 100000
set_option maxHeartbeats 4000000

theorem walkStoreRuns (vs : List V) (H : Heap) (hg : Givens H 1 [.one (.i .i64), .rows [.i .i64, .i .i64, .s, .i .i64, .i .i64, .i .i64, .i .i64, .s, .i .i64, .i .i64, .i .i64, .s, .s, .s, .s]] vs) (_ : ∀ id o, H id = some o → o.rw = false) : CallsC Tryz.prog nlaw18_StoreRuns vs H fun v _ => v = .bool true := by
  obtain ⟨_, vs, rfl, ⟨most, rfl, _⟩, hg1⟩ := hg.cons
  obtain ⟨_, vs, rfl, ⟨rs, hf, hlen, hr⟩, hg2⟩ := hg1.cons
  obtain rfl := hg2.nil
  obtain ⟨l, rfl⟩ := rowsOf Rec.enc (fun r hr => recOf (hf r hr))
  obtain ⟨s, rfl, hs1, hs⟩ := givenRowsA hr
  have hh := hs [] (Has.nil H) (by simp)
  exact (CallsR.reads (R := []) (runs_prog most s false l) hh).mono fun _ _ h => h.1
end Go.Proofs.YtjgcgepfidcihaaGreatDoor
