/-
  The law of a turned byte of a log: the first example, the states.
-/
import Derived.Test.YtkfhgpegnnokgaaGreatDoorSegD
namespace Go.Proofs.YtkfhgpegnnokgaaGreatDoor
open Go Go.CM
set_option maxRecDepth 100000
set_option maxHeartbeats 4000000

theorem open_new (d m ws : Nat) (D : Dsk) (hD : D.sure = []) (h : DOk D) (limit : Int) (e : Nat) : CallsL Tryz.prog nseglog_Open [.ptr d 0, .int .i64 1, .int .i64 limit] (DO d m ws D.waits.length D.room D.fuse D.down :: MO m D.sure :: WO ws D.waits :: LO e) fun v L' =>
    ∃ g o, v = .tup [.ptr g 0, .slice o 0 0 1, .int .i64 0] ∧ L' = GO g d 1 1 (limI limit) :: TL o true [] :: (DL d m ws D ++ LO e) := by
  refine (sopen_prog d m ws D 1 limit e (by omega) (by omega) h).mono fun v L' hq => ?_
  have hall : allL lgW D.sure = [] := all_up (n := 0) (by rw [hD]; rfl) (by omega)
  rw [hall] at hq
  exact (show ∃ g o, _ from hq.2 rfl)
theorem lawake_prog (e : Nat) : CallsR Tryz.prog nlaw11_awake [] (LO e) fun v => v = .bool true := by
  have hm1 := f1_len
  have hm2 := f2_len
  have e999 : newD 999 = (⟨[], [], 999, -1, false⟩ : Dsk) := rfl
  have ho1 := fun d m => open_new d m 0 (newD 999) rfl (newD_ok 999) 500 e
  have k1 : DOk (dA [(segN 1, makeT r1)] []) := ok_dA (by rw [sumL_cons, sumL_nil, hm1]; decide) (by simp)
  have k2 : DOk (dA [] (makeT r1)) := ok_dA (by rw [sumL_nil, hm1]; decide) (by simp)
  have k3 : DOk (dA [(segN 1, makeT r2)] (makeT r1)) := ok_dA (by rw [sumL_cons, sumL_nil, hm1, hm2]; decide) (by simp)
  have k4 : DOk (dA [] (makeT r1 ++ (makeT r2).take 3)) := by rw [← aw4]; exact k3.crash 3
  have ha1 := fun g d m => sappend_prog g d m 0 (newD 999) 1 1 500 r1 0 e (by decide) (by omega) (by omega) (newD_ok 999)
  have ha2 := fun g d m ws => ssync_prog g d m ws (dA [(segN 1, makeT r1)] []) 1 1 500 e k1
  have ha3 := fun g d m ws => sappend_prog g d m ws (dA [] (makeT r1)) 1 1 500 r2 0 e (by decide) (by omega) (by omega) k2
  have ha4 := fun d m ws => dcrash_prog d m ws (dA [(segN 1, makeT r2)] (makeT r1)) 3 (by omega) k3
  have ha5 := fun d m => sopen_prog d m 0 (dA [] (makeT r1 ++ (makeT r2).take 3)) 1 500 e (by omega) (by omega) k4
  have ha6 := fun g d m => sbytes_prog g d m 0 (dA [] (makeT r1)) 1 1 500 e (by omega) (by omega) k2
  rw [aw1] at ha1
  rw [if_neg aw2.1, if_neg aw2.1, aw2.2.1, aw2.2.2] at ha2
  rw [aw3] at ha3
  rw [aw4] at ha4
  rw [aw5.1] at ha5
  have hl500 : limI 500 = 500 := by decide
  dsimp only at ha5
  rw [aw5.2, hl500] at ha5
  rw [hl500] at ho1
  have hb : bytesS (dA [] (makeT r1)) (upI 1 ((1 : Int) + 1 - 1).toNat) = 12 := aw6
  rw [hb] at ha6
  refine slaw11_awake fun H hh => ?_
  dsimp only [claw11_awake]
  refine walk1 (k := ?_)
  repeat' first | refine And.intro ?_ ?_ | intro
  all_goals refine leaf ?_
  refine callL (dnew_prog 999) ?_
  rintro v L' H' ⟨d, m, rfl, rfl⟩ hh
  refine walk1 (k := ?_)
  repeat' first | refine And.intro ?_ ?_ | intro
  all_goals refine leaf ?_
  refine callL (ho1 d m) ?_
  rintro v L' H' ⟨g, o, rfl, rfl⟩ hh
  refine walk1 (k := ?_)
  repeat' first | refine And.intro ?_ ?_ | intro
  all_goals refine leaf ?_
  refine callL (ha1 g d m) ?_
  rintro v L' H' ⟨w1, rfl, rfl⟩ hh
  refine walk1 (k := ?_)
  repeat' first | refine And.intro ?_ ?_ | intro
  all_goals refine leaf ?_
  refine callL (ha2 g d m w1) ?_
  rintro v L' H' ⟨rfl, rfl⟩ hh
  refine walk1 (k := ?_)
  repeat' first | refine And.intro ?_ ?_ | intro
  all_goals refine leaf ?_
  refine callL (ha3 g d m w1) ?_
  rintro v L' H' ⟨w2, rfl, rfl⟩ hh
  refine walk1 (k := ?_)
  repeat' first | refine And.intro ?_ ?_ | intro
  all_goals refine leaf ?_
  refine callL (ha4 d m w2) ?_
  rintro v L' H' rfl hh
  refine walk1 (k := ?_)
  repeat' first | refine And.intro ?_ ?_ | intro
  all_goals refine leaf ?_
  refine callL (ha5 d m) ?_
  rintro v L' H' ⟨_, hq⟩ hh
  obtain ⟨g2, o2, rfl, rfl⟩ := hq rfl
  refine walk1 (k := ?_)
  repeat' first | refine And.intro ?_ ?_ | intro
  all_goals refine leaf ?_
  refine wps_slot (s := 61) (v := .bool true) (by show V.bool (nth [r1] 0 == [97, 98]) = _; rw [nth_zero]; rfl) ?_
  refine walk1 (k := ?_)
  repeat' first | refine And.intro ?_ ?_ | intro
  all_goals refine leaf ?_
  replace hh : Has _ (GO g2 d 1 1 500 :: TL o2 true [r1] :: DO d m 0 (dA [] (makeT r1)).waits.length (dA [] (makeT r1)).room (dA [] (makeT r1)).fuse (dA [] (makeT r1)).down :: MO m (dA [] (makeT r1)).sure :: WO 0 (dA [] (makeT r1)).waits :: (LO e ++ _)) := hh
  refine callE ((ha6 g2 d m)) ?_
  refine walk1 (k := ?_)
  repeat' first | refine And.intro ?_ ?_ | intro
  all_goals refine leaf ?_
  refine callE ((slast_prog g2 d 1 1 500)) ?_
  refine walk1 (k := ?_)
  repeat' first | refine And.intro ?_ ?_ | intro
  all_goals refine leaf ?_
  exact doneR rfl
end Go.Proofs.YtkfhgpegnnokgaaGreatDoor
