/-
  The disk: a file goes; bytes are appended; a new disk.
-/
import Derived.Test.YtkfhgpegnnokgaaGreatDoorDskC
namespace Go.Proofs.YtkfhgpegnnokgaaGreatDoor
open Go Go.CM
set_option maxRecDepth 100000
set_option maxHeartbeats 4000000

theorem dforget_prog (d m ws : Nat) (room fuse : Int) (down : Bool) (l : List (Tx × Tx)) (s : Tx) (hl : l.length ≤ 60000) : CallsL Tryz.prog ndisk_Disk_forget [.ptr d 0, .str s] [DO d m ws l.length room fuse down, WO ws l] fun _ L' => L' = [DO d m ws (butW s l).length room fuse down, WO ws (butW s l)] := by
  refine sdisk_Disk_forget fun H hh => ?_
  dsimp only [cdisk_Disk_forget]
  refine walk1 (k := ?_)
  repeat' first | refine And.intro ?_ ?_ | intro
  all_goals refine leaf ?_
  rename_i b _ hh
  refine callL (ddel_prog ws b l s hl) ?_
  rintro v L' H' ⟨rfl, rfl⟩ hh
  refine walk1 (k := ?_)
  repeat' first | refine And.intro ?_ ?_ | intro
  all_goals refine leaf ?_
  exact done rfl
theorem map_erase {α β : Type} (f : α → β) : ∀ (l : List α) (i : Nat), (l.map f).eraseIdx i = (l.eraseIdx i).map f
  | [], _ => rfl
  | _ :: _, 0 => rfl
  | x :: l, i + 1 => by
    show f x :: (l.map f).eraseIdx i = f x :: (l.eraseIdx i).map f
    rw [map_erase f l i]
theorem readyE_0 {D : Dsk} {s : Tx} : readyE D s = 0 ↔ deadD D.fuse D.down = false ∧ hasT s D.sure = true := by
  unfold readyE
  cases deadD D.fuse D.down <;> cases hasT s D.sure <;> decide
def remR (D : Dsk) (s : Tx) : Dsk := if readyE D s = 0 then remD D.dead s else D.dead
instance (D : Dsk) (n s : Tx) : Decidable (Full D n s) := by unfold Full; infer_instance
def appE (D : Dsk) (n s : Tx) : Int := if deadD D.fuse D.down = true then 12 else if rightN n = false then 1 else if Full D n s then 2 else 0
def appR (D : Dsk) (n s : Tx) : Dsk := if appE D n s = 0 then putD D.dead n s else D.dead
theorem appE_0 {D : Dsk} {n s : Tx} : appE D n s = 0 ↔ deadD D.fuse D.down = false ∧ rightN n = true ∧ ¬ Full D n s := by
  unfold appE
  cases deadD D.fuse D.down <;> cases rightN n <;> by_cases h : Full D n s <;> simp [h]
theorem DOk.app {D : Dsk} (h : DOk D) (n s : Tx) : DOk (appR D n s) := by
  unfold appR
  split
  · rename_i h0
    exact h.dead.put fun k => (appE_0.1 h0).2.2 k
  · exact h.dead
theorem DOk.remR {D : Dsk} (h : DOk D) (s : Tx) : DOk (remR D s) := by
  unfold YtkfhgpegnnokgaaGreatDoor.remR
  split
  · exact h.dead.rem s
  · exact h.dead
theorem dappend_prog (d m ws : Nat) (D : Dsk) (n s : Tx) (h : DOk D) (hs : s.length ≤ 1000000) : CallsL Tryz.prog ndisk_Disk_Append [.ptr d 0, .str n, .str s] (DL d m ws D) fun v L' => ∃ ws', v = .int .i64 (appE D n s) ∧ L' = DL d m ws' (appR D n s) := by
  have h1 := ddead_prog d m ws D.waits.length D.room D.fuse D.down h.fuse0 h.fuse1
  have h2 := dright_prog n
  have h3 := dthere_prog d m ws D.waits.length D.room (deadF D.fuse) (deadD D.fuse D.down) D.sure n
  have h4 := dused_prog d m ws D.dead h.dead
  have hu : D.dead.used = D.used := rfl
  rw [hu] at h4
  have hus := h.used
  have hfl := h.files
  have hwl := h.wl
  unfold appR appE
  cases hd : deadD D.fuse D.down with
  | true =>
    rw [if_pos rfl, if_neg (by decide)]
    have e : D.dead = ⟨D.sure, D.waits, D.room, deadF D.fuse, true⟩ := by unfold Dsk.dead; rw [hd]
    rw [e]
    rw [hd] at h1
    refine sdisk_Disk_Append fun H hh => ?_
    dsimp only [cdisk_Disk_Append]
    refine walk1 (k := ?_)
    repeat' first | refine And.intro ?_ ?_ | intro
    all_goals refine leaf ?_
    refine callL (h1) ?_
    rintro v L' H' ⟨rfl, rfl⟩ hh
    refine walk1 (k := ?_)
    repeat' first | refine And.intro ?_ ?_ | intro
    all_goals refine leaf ?_
    exact done ⟨ws, rfl, rfl⟩
  | false =>
    have e : D.dead = ⟨D.sure, D.waits, D.room, deadF D.fuse, false⟩ := by unfold Dsk.dead; rw [hd]
    rw [e] at h4 ⊢
    rw [hd] at h1 h3
    rw [if_neg (by decide)]
    cases hrn : rightN n with
    | false =>
      rw [if_pos rfl, if_neg (by decide)]
      rw [hrn] at h2
      refine sdisk_Disk_Append fun H hh => ?_
      dsimp only [cdisk_Disk_Append]
      refine walk1 (k := ?_)
      repeat' first | refine And.intro ?_ ?_ | intro
      all_goals refine leaf ?_
      refine callL (h1) ?_
      rintro v L' H' ⟨rfl, rfl⟩ hh
      refine walk1 (k := ?_)
      repeat' first | refine And.intro ?_ ?_ | intro
      all_goals refine leaf ?_
      refine callE (h2) ?_
      refine walk1 (k := ?_)
      repeat' first | refine And.intro ?_ ?_ | intro
      all_goals refine leaf ?_
      exact done ⟨ws, rfl, rfl⟩
    | true =>
      rw [if_neg (by decide)]
      rw [hrn] at h2
      refine sdisk_Disk_Append fun H hh => ?_
      dsimp only [cdisk_Disk_Append]
      refine walk1 (k := ?_)
      repeat' first | refine And.intro ?_ ?_ | intro
      all_goals refine leaf ?_
      refine callL (h1) ?_
      rintro v L' H' ⟨rfl, rfl⟩ hh
      refine walk1 (k := ?_)
      repeat' first | refine And.intro ?_ ?_ | intro
      all_goals refine leaf ?_
      refine callE (h2) ?_
      refine walk1 (k := ?_)
      repeat' first | refine And.intro ?_ ?_ | intro
      all_goals refine leaf ?_
      cases ht : hasT n D.sure with
      | true =>
        rw [ht] at h3
        have hF : Full D n s ↔ D.room < (D.used : Int) + (s.length : Int) := by
          unfold Full
          rw [ht]
          simp
        refine callE (h3) ?_
        refine walk (k := ?_)
        repeat' first | refine And.intro ?_ ?_ | intro
        all_goals refine leaf ?_
        refine callE (h4) ?_
        refine walk (k := ?_)
        repeat' first | refine And.intro ?_ ?_ | intro
        all_goals refine leaf ?_
        · rw [if_pos (hF.2 (by omega)), if_neg (by decide)]
          exact done ⟨ws, rfl, rfl⟩
        rw [if_neg (fun k => by have := hF.1 k; omega), if_pos rfl]
        unfold putD
        rw [ht, if_pos rfl]
        refine callE (h3) ?_
        refine walk1 (k := ?_)
        repeat' first | refine And.intro ?_ ?_ | intro
        all_goals refine leaf ?_
        by_cases hs0 : s = []
        · subst hs0
          rw [if_pos rfl]
          refine c_cond_f (by rfl) ?_
          refine walk1 (k := ?_)
          repeat' first | refine And.intro ?_ ?_ | intro
          all_goals refine leaf ?_
          exact done ⟨ws, rfl, rfl⟩
        · rw [if_neg hs0]
          have hint : Hint wtC (n, s) := trivial
          refine c_cond_t (by show V.bool _ = _; simpa using hs0) ?_
          refine walk1 (k := ?_)
          repeat' first | refine And.intro ?_ ?_ | intro
          all_goals refine leaf ?_
          exact done ⟨_, rfl, rfl⟩
      | false =>
        rw [ht] at h3
        have hlm : ((D.sure.map srV).map nvE).length = D.sure.length := by simp
        have hfn : fat n D.sure = none := by
          unfold hasT at ht
          exact Option.not_isSome_iff_eq_none.1 (by simp [ht])
        by_cases h16 : 16 ≤ D.sure.length
        · have hF : Full D n s := .inl ⟨ht, h16⟩
          rw [if_pos hF, if_neg (by decide)]
          refine callE (h3) ?_
          refine walk (k := ?_)
          repeat' first | refine And.intro ?_ ?_ | intro
          all_goals refine leaf ?_
          all_goals first
            | exact done ⟨ws, rfl, rfl⟩
            | exact absurd h16 (by omega)
        have hF : Full D n s ↔ D.room < (D.used : Int) + (s.length : Int) := by
          unfold Full
          rw [ht]
          simp [h16]
        refine callE (h3) ?_
        refine walk (k := ?_)
        repeat' first | refine And.intro ?_ ?_ | intro
        all_goals refine leaf ?_
        · exact absurd h16 (by omega)
        refine callE (h4) ?_
        refine walk (k := ?_)
        repeat' first | refine And.intro ?_ ?_ | intro
        all_goals refine leaf ?_
        · rw [if_pos (hF.2 (by omega)), if_neg (by decide)]
          exact done ⟨ws, rfl, rfl⟩
        rw [if_neg (fun k => by have := hF.1 k; omega), if_pos rfl]
        unfold putD
        rw [ht, if_neg (by decide)]
        refine callE (h3) ?_
        refine walk1 (k := ?_)
        repeat' first | refine And.intro ?_ ?_ | intro
        all_goals refine leaf ?_
        refine wps_put hh (r := none) (es := (D.sure.map srV).map nvE) (es' := ((D.sure ++ [(n, [])]).map srV).map nvE) rfl rfl (by have := find_sr n D.sure; rw [hfn] at this; exact this) (by simp [putE]; rfl) (.there .here1) fun _ hh => ?_
        by_cases hs0 : s = []
        · subst hs0
          rw [if_pos rfl]
          refine walk1 (k := ?_)
          repeat' first | refine And.intro ?_ ?_ | intro
          all_goals refine leaf ?_
          exact done ⟨ws, rfl, rfl⟩
        · rw [if_neg hs0]
          have hint : Hint wtC (n, s) := trivial
          refine walk1 (k := ?_)
          repeat' first | refine And.intro ?_ ?_ | intro
          all_goals refine leaf ?_
          refine c_cond_t (by show V.bool _ = _; simpa using hs0) ?_
          refine walk1 (k := ?_)
          repeat' first | refine And.intro ?_ ?_ | intro
          all_goals refine leaf ?_
          exact done ⟨_, rfl, rfl⟩
def roomI (n : Int) : Int := min (max n 0) 60000
theorem roomI_at (m : Int) : (if 60000 < (if m < 0 then 0 else m) then 60000 else if m < 0 then 0 else m) = roomI m := by
  unfold roomI
  repeat' split
  all_goals omega
theorem droom_prog (d m : Nat) (x : V) (r fuse : Int) (down : Bool) (n : Int) : CallsL Tryz.prog ndisk_Disk_Room [.ptr d 0, .int .i64 n] [(d, .cells true [.map m, x, .int .i64 r, .int .i64 fuse, .bool down])] fun _ L' => L' = [(d, .cells true [.map m, x, .int .i64 (roomI n), .int .i64 fuse, .bool down])] := by
  refine sdisk_Disk_Room fun H hh => ?_
  dsimp only [cdisk_Disk_Room]
  refine walk1 (k := ?_)
  repeat' first | refine And.intro ?_ ?_ | intro
  all_goals refine leaf ?_
  rename_i hh
  rw [roomI_at] at hh
  exact done rfl
def newD (n : Int) : Dsk := ⟨[], [], roomI n, -1, false⟩
theorem newD_ok (n : Int) : DOk (newD n) := ⟨Nat.zero_le _, Nat.zero_le _, List.nodup_nil, by simp [newD], by simp [newD], by show 0 ≤ roomI n; unfold roomI; omega, by show roomI n ≤ _; unfold roomI; omega, by show (-1 : Int) ≤ -1; omega, by show (-1 : Int) ≤ _; omega⟩
theorem dnew_prog (n : Int) : CallsL Tryz.prog ndisk_New [.int .i64 n] [] fun v L' => ∃ d m, v = .ptr d 0 ∧ L' = DL d m 0 (newD n) := by
  refine sdisk_New fun H hh => ?_
  dsimp only [cdisk_New]
  refine walk1 (k := ?_)
  repeat' first | refine And.intro ?_ ?_ | intro
  all_goals refine leaf ?_
  rename_i m _ _ d _ hh
  refine callL (droom_prog d m .nils 0 (-1) false n) ?_
  rintro v L' H' rfl hh
  refine walk1 (k := ?_)
  repeat' first | refine And.intro ?_ ?_ | intro
  all_goals refine leaf ?_
  refine CEnds.obj hh (cs' := [.map m, .slice 0 0 0 2, .int .i64 (roomI n), .int .i64 (-1), .bool false]) .here1 (Wks.wkp (.cons (Wk.refl _) (.cons (Wk.nils _ _) (Wks.refl _)))) (by simp) fun H' hh => ?_
  have hh := hh.ghost true
  exact done ⟨d, m, rfl, rfl⟩
end Go.Proofs.YtkfhgpegnnokgaaGreatDoor
