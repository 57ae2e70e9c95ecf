/-
  Texts joined: At any time, in between, what is expired is told as the document says. Records as a law's inputs. At any time what is expired is told as the document says: any inputs.
-/
import Derived.Test.YtjgcgepfidcihaaGreatDoorTimA
import Derived.Test.YtjgcgepfidcihaaGreatDoorLawS
import Derived.Test.YtjgcgepfidcihaaGreatDoorEntD
import Derived.Test.YtjgcgepfidcihaaGreatDoorCmE
import Derived.Test.YtjgcgepfidcihaaGreatDoorCmG
namespace Go.Proofs.YtjgcgepfidcihaaGreatDoor
open Go Go.CM
set_option maxRecDepth 100000
set_option maxHeartbeats 4000000

theorem times_prog (s t : Nat) (b b' : Bool) (l : List Rec) (ts : List Int) : CallsR Tryz.prog nlaw18_StoreTimes [.slice s 0 l.length 15, .slice t 0 ts.length 1] [RL s b l, (t, .cells b' (ts.flatMap intC))] fun v => v = .bool true := by
  have h0 := awake_prog
  have h1 := small18_prog s b l 40 (by decide)
  refine slaw18_StoreTimes fun H hh => ?_
  dsimp only [claw18_StoreTimes]
  refine walk1 (k := ?_)
  repeat' first | refine And.intro ?_ ?_ | intro
  all_goals refine leaf ?_
  refine callE (h0) ?_
  refine walk1 (k := ?_)
  repeat' first | refine And.intro ?_ ?_ | intro
  all_goals refine leaf ?_
  refine callR (h1) ?_
  rintro v ⟨c, rfl, hb⟩
  cases c with
  | false =>
    refine walk1 (k := ?_)
    repeat' first | refine And.intro ?_ ?_ | intro
    all_goals refine leaf ?_
    exact doneR rfl
  | true =>
    obtain ⟨hl, hsm⟩ := hb rfl
    clear hb h0 h1
    refine walk1 (k := ?_)
    repeat' first | refine And.intro ?_ ?_ | intro
    all_goals refine leaf ?_
    refine callL (snew_prog 200) ?_
    rintro v L0 H' ⟨sid, rfl, hst⟩ hh
    refine walk1 (k := ?_)
    repeat' first | refine And.intro ?_ ?_ | intro
    all_goals refine leaf ?_
    rename_i w _ hh
    have hw0 : w ≠ 0 := hh.ne0 (b := true) (cs := [.int .i64 200, .nils, .int .i64 0]) (by simp) (by simp)
    obtain ⟨H2, hwk, hh2⟩ := Has.wk (hh.ghost true) hw0 (o := .cells true [.int .i64 200, .nils, .int .i64 0]) (o' := .cells true [.int .i64 200, .slice 0 0 0 14, .int .i64 0]) (L' := (0, .cells true []) :: (w, .cells true [.int .i64 200, .slice 0 0 0 14, .int .i64 0]) :: (L0 ++ [RL s b l, (t, .cells b' (ts.flatMap intC))])) (by exact .there .here1) (.cells _ _ (Wks.wkp (.cons (Wk.refl _) (.cons (Wk.nils 0 14) (.cons (Wk.refl _) .nil)))))
    refine C.wk (fun _ => Wk.refl _) hwk ?_
    refine loopN [1, 5, 6, 22, 23, 24] l.length (fun i vs L => ∃ st L0 o, SOk st ∧ StO sid st L0 ∧ vs = [.slice t 0 ts.length 1, .ptr sid 0, .ptr w 0, .slice s 0 l.length 15, .int .i64 l.length, .int .i64 (i : Nat)] ∧ L = WO w st o :: EL o true st.l :: RL s b l :: (t, .cells b' (ts.flatMap intC)) :: L0)
      (Nx.intro (i := 0) rfl ⟨⟨200, [], 0⟩, L0, 0, SOk.new 200, hst, rfl, rfl⟩ hh2) ?_
    clear hh hh2 hst hw0 hwk
    rintro i _ _ env H hi ⟨st, L0, o, hok, hst, rfl, rfl⟩ hh
    simp only [puts]
    by_cases hn : i < l.length
    · have hsr := hsm _ (nth_mem hn)
      have hap := sapply_prog sid st L0 (nth l i) hst hok (by omega)
      have hwp := wapp_prog w o st (nth l i) hok (by omega)
      have hok2 := hok.app (nth l i)
      have hre : (nth l i).enc = [.int .i64 (nth l i).kind, .int .i64 (nth l i).e.tenant, .str (nth l i).e.key, .int .i64 (nth l i).e.state, .int .i64 (nth l i).e.epoch, .int .i64 (nth l i).e.token, .int .i64 (nth l i).e.point, .str (nth l i).e.print, .int .i64 (nth l i).e.lease, .int .i64 (nth l i).e.expiry, .int .i64 (nth l i).e.status, .str (nth l i).e.text, .str (nth l i).e.method, .str (nth l i).e.path, .str (nth l i).e.body] := rfl
      rw [hre] at hap hwp
      refine walk1 (k := ?_)
      repeat' first | refine And.intro ?_ ?_ | intro
      all_goals refine leaf ?_
      refine c_cond_t (by show V.bool _ = _; simp; omega) ?_
      refine walk1 (k := ?_)
      repeat' first | refine And.intro ?_ ?_ | intro
      all_goals refine leaf ?_
      clear hre
      generalize nth l i = r at *
      generalize chkI st r = ck at *
      generalize appS st r = st2 at *
      have hlen2 := hok2.len
      refine callL (hap) ?_
      rintro v L1 H' ⟨rfl, hst2⟩ hh
      clear hap hst
      refine walk1 (k := ?_)
      repeat' first | refine And.intro ?_ ?_ | intro
      all_goals refine leaf ?_
      refine callL (hwp) ?_
      rintro v L' H' ⟨o', rfl, rfl⟩ hh
      clear hwp
      refine walk1 (k := ?_)
      repeat' first | refine And.intro ?_ ?_ | intro
      all_goals refine leaf ?_
      by_cases hti : i < ts.length
      · have hg1 := sget_prog sid st2 L1 (enm r.e) hst2 hok2
        have hg2 := rget_prog o' true st2.l (enm r.e) (by omega) hok2.srt
        have hx1 := fun now => sexp_prog sid st2 L1 now hst2 hok2
        have hx2 := fun now => wexp_prog w o' st2 now (by omega)
        have ha1 := fun m => safter_prog sid st2 L1 (enm r.e) m hst2 hok2
        have ha2 := fun m => rafter_prog o' true st2.l (enm r.e) m (by omega)
        generalize hE : (getL st2.l (enm r.e)).getD Entry.zero = e at *
        generalize hB : (getL st2.l (enm r.e)).isSome = bb at *
        have hee : e.enc = [.int .i64 e.tenant, .str e.key, .int .i64 e.state, .int .i64 e.epoch, .int .i64 e.token, .int .i64 e.point, .str e.print, .int .i64 e.lease, .int .i64 e.expiry, .int .i64 e.status, .str e.text, .str e.method, .str e.path, .str e.body] := rfl
        rw [hee] at hg1 hg2
        refine c_cond_f (by show V.bool _ = _; simp; omega) ?_
        refine walk1 (k := ?_)
        repeat' first | refine And.intro ?_ ?_ | intro
        all_goals refine leaf ?_
        refine callE (hg1) ?_
        refine walk1 (k := ?_)
        repeat' first | refine And.intro ?_ ?_ | intro
        all_goals refine leaf ?_
        refine callE (hg2) ?_
        refine walk1 (k := ?_)
        repeat' first | refine And.intro ?_ ?_ | intro
        all_goals refine leaf ?_
        refine wps_slot (s := 65) (v := .bool false) (by show V.bool (!entB e e) = _; rw [entB_eq, decide_eq_true rfl]; rfl) ?_
        refine walk1 (k := ?_)
        repeat' first | refine And.intro ?_ ?_ | intro
        all_goals refine leaf ?_
        refine wps_slot (s := 70) (v := .bool false) (by cases bb <;> rfl) ?_
        refine walk1 (k := ?_)
        repeat' first | refine And.intro ?_ ?_ | intro
        all_goals refine leaf ?_
        refine callN (hx1 (nth ts i)) ?_
        rintro v Lo H' ⟨o3, out, hop, hos, rfl, rfl⟩ hh
        obtain rfl := exp_one hok2.srt hop hos
        refine walk1 (k := ?_)
        repeat' first | refine And.intro ?_ ?_ | intro
        all_goals refine leaf ?_
        refine callN (hx2 (nth ts i)) ?_
        rintro v Lo H' ⟨o4, rfl, rfl⟩ hh
        have hwl := wexpL_le st2.l (nth ts i)
        have hsa := rsameE_prog o3 o4 true true (wexpL st2.l (nth ts i)) (wexpL st2.l (nth ts i)) (by omega)
        rw [decide_eq_true rfl] at hsa
        refine walk1 (k := ?_)
        repeat' first | refine And.intro ?_ ?_ | intro
        all_goals refine leaf ?_
        refine callE (hsa) ?_
        refine walk1 (k := ?_)
        repeat' first | refine And.intro ?_ ?_ | intro
        all_goals refine leaf ?_
        refine callN (ha1 (nth ts i)) ?_
        rintro v Lo H' ⟨o5, rfl, rfl⟩ hh
        refine walk1 (k := ?_)
        repeat' first | refine And.intro ?_ ?_ | intro
        all_goals refine leaf ?_
        refine callN (ha2 (nth ts i)) ?_
        rintro v Lo H' ⟨o6, rfl, rfl⟩ hh
        have hal : (aftL st2.l (enm r.e) (nth ts i)).length ≤ 200 := by
          have h1 : (behL st2.l (enm r.e)).length ≤ st2.l.length := List.length_filter_le _ _
          rw [aftL, List.length_take]; omega
        have hsb := rsameE_prog o5 o6 true true (aftL st2.l (enm r.e) (nth ts i)) (aftL st2.l (enm r.e) (nth ts i)) (by omega)
        rw [decide_eq_true rfl] at hsb
        refine walk1 (k := ?_)
        repeat' first | refine And.intro ?_ ?_ | intro
        all_goals refine leaf ?_
        refine callE (hsb) ?_
        refine walk1 (k := ?_)
        repeat' first | refine And.intro ?_ ?_ | intro
        all_goals refine leaf ?_
        exact Nx.next hn ⟨st2, L1, o', hok2, hst2, rfl, rfl⟩
      · refine c_cond_t (by show V.bool _ = _; simp; omega) ?_
        refine walk1 (k := ?_)
        repeat' first | refine And.intro ?_ ?_ | intro
        all_goals refine leaf ?_
        exact doneR rfl
    · skip
      refine walk1 (k := ?_)
      repeat' first | refine And.intro ?_ ?_ | intro
      all_goals refine leaf ?_
      refine c_cond_f (by show V.bool _ = _; simp; omega) ?_
      refine walk1 (k := ?_)
      repeat' first | refine And.intro ?_ ?_ | intro
      all_goals refine leaf ?_
      exact doneR rfl
end Go.Proofs.YtjgcgepfidcihaaGreatDoor

namespace Go.Proofs.YtjgcgepfidcihaaGreatDoor
open Go Go.CM
set_option maxRecDepth 100000
set_option maxHeartbeats 4000000

theorem entOf {cs : List V} (h : Fits [.i .i64, .s, .i .i64, .i .i64, .i .i64, .i .i64, .s, .i .i64, .i .i64, .i .i64, .s, .s, .s, .s] cs) : ∃ j : Entry, cs = j.enc := by
  obtain ⟨_, _, rfl, ⟨xa, rfl, _⟩, h0⟩ := h.cons
  obtain ⟨_, _, rfl, ⟨xb, rfl, _⟩, h1⟩ := h0.cons
  obtain ⟨_, _, rfl, ⟨xc, rfl, _⟩, h2⟩ := h1.cons
  obtain ⟨_, _, rfl, ⟨xd, rfl, _⟩, h3⟩ := h2.cons
  obtain ⟨_, _, rfl, ⟨xe, rfl, _⟩, h4⟩ := h3.cons
  obtain ⟨_, _, rfl, ⟨xf, rfl, _⟩, h5⟩ := h4.cons
  obtain ⟨_, _, rfl, ⟨xg, rfl, _⟩, h6⟩ := h5.cons
  obtain ⟨_, _, rfl, ⟨xh, rfl, _⟩, h7⟩ := h6.cons
  obtain ⟨_, _, rfl, ⟨xi, rfl, _⟩, h8⟩ := h7.cons
  obtain ⟨_, _, rfl, ⟨xj, rfl, _⟩, h9⟩ := h8.cons
  obtain ⟨_, _, rfl, ⟨xk, rfl, _⟩, h10⟩ := h9.cons
  obtain ⟨_, _, rfl, ⟨xl, rfl, _⟩, h11⟩ := h10.cons
  obtain ⟨_, _, rfl, ⟨xm, rfl, _⟩, h12⟩ := h11.cons
  obtain ⟨_, _, rfl, ⟨xn, rfl, _⟩, h13⟩ := h12.cons
  obtain rfl := h13.nil
  exact ⟨⟨xa, xb, xc, xd, xe, xf, xg, xh, xi, xj, xk, xl, xm, xn⟩, rfl⟩
theorem recOf {cs : List V} (h : Fits [.i .i64, .i .i64, .s, .i .i64, .i .i64, .i .i64, .i .i64, .s, .i .i64, .i .i64, .i .i64, .s, .s, .s, .s] cs) : ∃ j : Rec, cs = j.enc := by
  obtain ⟨_, _, rfl, ⟨a, rfl, _⟩, h1⟩ := h.cons
  obtain ⟨e, rfl⟩ := entOf h1
  exact ⟨⟨a, e⟩, rfl⟩
end Go.Proofs.YtjgcgepfidcihaaGreatDoor

namespace Go.Proofs.YtjgcgepfidcihaaGreatDoor
open Go Go.CM
set_option maxRecDepth 100000
set_option maxHeartbeats 4000000

theorem intOf {cs : List V} (h : Fits [.i .i64] cs) : ∃ n : Int, cs = intC n := by
  obtain ⟨_, _, rfl, ⟨n, rfl, _⟩, h1⟩ := h.cons
  obtain rfl := h1.nil
  exact ⟨n, rfl⟩
theorem walkStoreTimes (vs : List V) (H : Heap) (hg : Givens H 1 [.rows [.i .i64, .i .i64, .s, .i .i64, .i .i64, .i .i64, .i .i64, .s, .i .i64, .i .i64, .i .i64, .s, .s, .s, .s], .rows [.i .i64]] vs) (_ : ∀ id o, H id = some o → o.rw = false) : CallsC Tryz.prog nlaw18_StoreTimes vs H fun v _ => v = .bool true := by
  obtain ⟨_, vs, rfl, ⟨rs, hf, hlen, hr⟩, hg1⟩ := hg.cons
  obtain ⟨_, vs, rfl, ⟨rs2, hf2, hlen2, hr2⟩, hg2⟩ := hg1.cons
  obtain rfl := hg2.nil
  obtain ⟨l, rfl⟩ := rowsOf Rec.enc (fun r hr => recOf (hf r hr))
  obtain ⟨ts, rfl⟩ := rowsOf intC (fun r hr => intOf (hf2 r hr))
  obtain ⟨s, rfl, hs1, hs⟩ := givenRowsA hr
  obtain ⟨t, rfl, ht1, ht⟩ := givenRowsA hr2
  have hh := hs _ (ht [] (Has.nil H) (by simp)) (by simp; omega)
  exact (CallsR.reads (R := []) (times_prog s t false false l ts) hh).mono fun _ _ h => h.1
end Go.Proofs.YtjgcgepfidcihaaGreatDoor
