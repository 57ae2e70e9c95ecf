/-
  Texts joined: What was loaded is a store; nobody's store. Entries are loaded, or refused, as the document says; what was loaded goes on. Records as a law's inputs. Entries are loaded, or refused, as the document says: any inputs.
-/
import Derived.Test.YtjgcgepfidcihaaGreatDoorLoaC
import Derived.Test.YtjgcgepfidcihaaGreatDoorCmG
import Derived.Test.YtjgcgepfidcihaaGreatDoorLawS
import Derived.Test.YtjgcgepfidcihaaGreatDoorEntD
import Derived.Test.YtjgcgepfidcihaaGreatDoorCmE
namespace Go.Proofs.YtjgcgepfidcihaaGreatDoor
open Go Go.CM
set_option maxRecDepth 100000
set_option maxHeartbeats 4000000

theorem loadS_ok {st : Sto} {l : List Entry} {top : Int} (hok : SOk st) : SOk (loadS st l top) := by
  rw [loadS]
  split
  · rename_i hv
    rw [loadI] at hv
    split at hv
    · cases hv
    · split at hv
      · rename_i h; exact absurd hv h
      · rename_i h1
        obtain ⟨htop, hmA, heA⟩ := mayI_ok (Classical.not_not.1 h1)
        split at hv
        · cases hv
        · rename_i hnd
          split at hv
          · cases hv
          · rename_i h2
            have h3 := not_or.1 h2
            have hquo := Classical.not_not.1 h3.2
            have hp := putsL_perm hnd l.length (Nat.le_refl _)
            rw [List.take_length] at hp
            have hm : ∀ e ∈ putsL [] l, mayP e := fun e he => mayA_mem hmA (hp.mem_iff.1 he)
            refine ⟨putsL_srt Srt.nil, hm, ?_, fun t => ?_, fun e he => epoA_mem heA (hp.mem_iff.1 he), htop.1, htop.2⟩
            · show (putsL [] l).length ≤ 200
              rw [hp.length_eq]; omega
            · show ((cnt (putsL [] l) t : Nat) : Int) ≤ quoI st.most
              by_cases ht : 0 ≤ t ∧ t < 4
              · rcases four ht with rfl | rfl | rfl | rfl
                · exact hquo.1
                · exact hquo.2.1
                · exact hquo.2.2.1
                · exact hquo.2.2.2
              · have hz : cnt (putsL [] l) t = 0 := by
                  show (ofL (putsL [] l) t).length = 0
                  rw [List.length_eq_zero_iff]
                  refine List.filter_eq_nil_iff.2 fun e he => ?_
                  have := (hm e he).1.1
                  simp only [decide_eq_true_eq]
                  rintro rfl
                  exact ht ⟨this.1, this.2.1⟩
                have := quoI_le st.most
                omega
  · exact hok
theorem sloadnil_prog (s : Nat) (st : Sto) (L0 : List Ob) (top : Int) (hst : StO s st L0) (hok : SOk st) :
    CallsL Tryz.prog nstore_Store_Load [.ptr s 0, .nils, .int .i64 top] L0 fun v L' => ∃ L1, v = .int .i64 (loadI st [] top) ∧ StO s (loadS st [] top) L1 ∧ L' = EL 0 true [] :: L1 :=
  CallsL.nilArg (.cons (Wk.refl _) (.cons (Wk.nils 0 14) (.cons (Wk.refl _) .nil))) (sload_prog s 0 true st L0 [] top hst hok (by simp) (by simp)) fun _ h => h.ghost true
theorem wloadnil_prog (w o : Nat) (st : Sto) (top : Int) (hok : SOk st) :
    CallsL Tryz.prog nref18_Store_Load [.ptr w 0, .nils, .int .i64 top] (WL w st o) fun v L' => ∃ o2, v = .int .i64 (loadI st [] top) ∧ L' = EL 0 true [] :: WL w (loadS st [] top) o2 :=
  CallsL.nilArg (.cons (Wk.refl _) (.cons (Wk.nils 0 14) (.cons (Wk.refl _) .nil))) (wload_prog w o 0 true st [] top hok (by simp) (by simp)) fun _ h => h.ghost true
theorem wload0_prog (w s : Nat) (b : Bool) (most : Int) (l : List Entry) (top : Int) (hl : l.length ≤ 1000) (hk : ∀ e ∈ l, e.key.length ≤ 1000000) :
    CallsL Tryz.prog nref18_Store_Load [.ptr w 0, .slice s 0 l.length 14, .int .i64 top] [EL s b l, (w, .cells true [.int .i64 most, .nils, .int .i64 0])] fun v L' => ∃ o2, v = .int .i64 (loadI ⟨most, [], 0⟩ l top) ∧ L' = EL s b l :: WL w (loadS ⟨most, [], 0⟩ l top) o2 := fun H hh => by
  have hw0 : w ≠ 0 := hh.ne0 (b := true) (cs := [.int .i64 most, .nils, .int .i64 0]) (by simp) (by simp)
  obtain ⟨H2, hwk, hh2⟩ := Has.wk (hh.ghost true) hw0 (o := .cells true [.int .i64 most, .nils, .int .i64 0]) (o' := .cells true [.int .i64 most, .slice 0 0 0 14, .int .i64 0]) (L' := [(0, .cells true []), EL s b l, (w, .cells true [.int .i64 most, .slice 0 0 0 14, .int .i64 0])]) (by exact .there (.there .here1)) (.cells _ _ (Wks.wkp (.cons (Wk.refl _) (.cons (Wk.nils 0 14) (.cons (Wk.refl _) .nil)))))
  exact CallsC.wkHeap hwk (wload_prog w 0 s b ⟨most, [], 0⟩ l top (SOk.new most) hl hk H2 (hh2.perm (List.perm_append_comm (l₁ := [(0, HObj.cells true [])]) (l₂ := [EL s b l, (w, .cells true [.int .i64 most, .slice 0 0 0 14, .int .i64 0])]))))
theorem slen_nil : CallsR Tryz.prog nstore_Store_Len [.nilp] [] fun v => v = .int .i64 0 := by
  refine sstore_Store_Len fun H hh => ?_
  dsimp only [cstore_Store_Len]
  refine walk (k := ?_)
  repeat' first | refine And.intro ?_ ?_ | intro
  all_goals refine leaf ?_
  exact doneR rfl
theorem stop_nil : CallsR Tryz.prog nstore_Store_Top [.nilp] [] fun v => v = .int .i64 0 := by
  refine sstore_Store_Top fun H hh => ?_
  dsimp only [cstore_Store_Top]
  refine walk (k := ?_)
  repeat' first | refine And.intro ?_ ?_ | intro
  all_goals refine leaf ?_
  exact doneR rfl
theorem sused_nil (t : Int) : CallsR Tryz.prog nstore_Store_Used [.nilp, .int .i64 t] [] fun v => v = .int .i64 0 := by
  refine sstore_Store_Used fun H hh => ?_
  dsimp only [cstore_Store_Used]
  refine walk (k := ?_)
  repeat' first | refine And.intro ?_ ?_ | intro
  all_goals refine leaf ?_
  exact doneR rfl
theorem sall_nil : CallsR Tryz.prog nstore_Store_All [.nilp] [] fun v => v = .nils := by
  refine sstore_Store_All fun H hh => ?_
  dsimp only [cstore_Store_All]
  refine walk (k := ?_)
  repeat' first | refine And.intro ?_ ?_ | intro
  all_goals refine leaf ?_
  exact doneR rfl
theorem sexp_nil (t : Int) : CallsR Tryz.prog nstore_Store_Expired [.nilp, .int .i64 t] [] fun v => v = .nils := by
  refine sstore_Store_Expired fun H hh => ?_
  dsimp only [cstore_Store_Expired]
  refine walk (k := ?_)
  repeat' first | refine And.intro ?_ ?_ | intro
  all_goals refine leaf ?_
  exact doneR rfl
theorem safter_nil (t m : Int) (k : List UInt8) : CallsR Tryz.prog nstore_Store_After [.nilp, .int .i64 t, .str k, .int .i64 m] [] fun v => v = .nils := by
  refine sstore_Store_After fun H hh => ?_
  dsimp only [cstore_Store_After]
  refine walk (k := ?_)
  repeat' first | refine And.intro ?_ ?_ | intro
  all_goals refine leaf ?_
  exact doneR rfl
theorem snext_nil (t : Int) : CallsR Tryz.prog nstore_Store_Next [.nilp, .int .i64 t] [] fun v => v = .tup [.int .i64 0, .bool false] := by
  refine sstore_Store_Next fun H hh => ?_
  dsimp only [cstore_Store_Next]
  refine walk (k := ?_)
  repeat' first | refine And.intro ?_ ?_ | intro
  all_goals refine leaf ?_
  exact doneR rfl
theorem scheck_nil (r : Rec) : CallsR Tryz.prog nstore_Store_Check [.nilp, .agg r.enc] [] fun v => v = .int .i64 1 := by
  refine sstore_Store_Check fun H hh => ?_
  dsimp only [cstore_Store_Check]
  refine walk (k := ?_)
  repeat' first | refine And.intro ?_ ?_ | intro
  all_goals refine leaf ?_
  exact doneR rfl
theorem sapply_nil (r : Rec) : CallsR Tryz.prog nstore_Store_Apply [.nilp, .agg r.enc] [] fun v => v = .int .i64 1 := by
  have h := scheck_nil r
  have hre : r.enc = [.int .i64 r.kind, .int .i64 r.e.tenant, .str r.e.key, .int .i64 r.e.state, .int .i64 r.e.epoch, .int .i64 r.e.token, .int .i64 r.e.point, .str r.e.print, .int .i64 r.e.lease, .int .i64 r.e.expiry, .int .i64 r.e.status, .str r.e.text, .str r.e.method, .str r.e.path, .str r.e.body] := rfl
  rw [hre] at h ⊢
  refine sstore_Store_Apply fun H hh => ?_
  dsimp only [cstore_Store_Apply]
  refine walk1 (k := ?_)
  repeat' first | refine And.intro ?_ ?_ | intro
  all_goals refine leaf ?_
  refine callE (h) ?_
  refine walk1 (k := ?_)
  repeat' first | refine And.intro ?_ ?_ | intro
  all_goals refine leaf ?_
  exact doneR rfl
theorem sload_nil (t : Int) : CallsR Tryz.prog nstore_Store_Load [.nilp, .nils, .int .i64 t] [] fun v => v = .int .i64 1 := by
  refine sstore_Store_Load fun H hh => ?_
  dsimp only [cstore_Store_Load]
  refine walk (k := ?_)
  repeat' first | refine And.intro ?_ ?_ | intro
  all_goals refine leaf ?_
  exact doneR rfl
end Go.Proofs.YtjgcgepfidcihaaGreatDoor

namespace Go.Proofs.YtjgcgepfidcihaaGreatDoor
open Go Go.CM
set_option maxRecDepth 100000
set_option maxHeartbeats 4000000

abbrev tailE (l : List Rec) (i : Nat) : List Entry := ((l.drop 1).take i).map Rec.e
theorem tailE_snoc {l : List Rec} {i : Nat} (h : i + 1 < l.length) : tailE l (i + 1) = tailE l i ++ [(nth l (i + 1)).e] := by
  have h1 : nth (l.drop 1) i = nth l (i + 1) := by
    rw [nth_getElem (by rw [List.length_drop]; omega), nth_getElem h, List.getElem_drop]
    congr 1; omega
  rw [tailE, take_getD (by rw [List.length_drop]; omega), List.map_append, h1]; rfl
theorem tailE_mem {l : List Rec} {i : Nat} {e : Entry} (h : e ∈ tailE l i) : ∃ r ∈ l, r.e = e := by
  obtain ⟨r, hr, rfl⟩ := List.mem_map.1 h
  exact ⟨r, List.mem_of_mem_drop (List.mem_of_mem_take hr), rfl⟩
theorem loads_prog (most : Int) (s : Nat) (b : Bool) (l : List Rec) (top : Int) : CallsR Tryz.prog nlaw18_StoreLoads [.int .i64 most, .slice s 0 l.length 15, .int .i64 top] [RL s b l] fun v => v = .bool true := by
  have h0 := awake_prog
  have h1 := small18_prog s b l 30 (by decide)
  refine slaw18_StoreLoads fun H hh => ?_
  dsimp only [claw18_StoreLoads]
  refine walk1 (k := ?_)
  repeat' first | refine And.intro ?_ ?_ | intro
  all_goals refine leaf ?_
  refine callE (h0) ?_
  refine walk1 (k := ?_)
  repeat' first | refine And.intro ?_ ?_ | intro
  all_goals refine leaf ?_
  refine callR (h1) ?_
  rintro v ⟨c, rfl, hb⟩
  cases c with
  | false =>
    refine walk1 (k := ?_)
    repeat' first | refine And.intro ?_ ?_ | intro
    all_goals refine leaf ?_
    exact doneR rfl
  | true =>
    obtain ⟨hl, hsm⟩ := hb rfl
    clear hb h0 h1
    refine walk1 (k := ?_)
    repeat' first | refine And.intro ?_ ?_ | intro
    all_goals refine leaf ?_
    by_cases hz : l.length = 0
    · refine c_cond_t (by show V.bool _ = _; simp [hz]) ?_
      refine walk1 (k := ?_)
      repeat' first | refine And.intro ?_ ?_ | intro
      all_goals refine leaf ?_
      exact doneR rfl
    · refine c_cond_f (by show V.bool _ = _; simp [hz]) ?_
      refine walk1 (k := ?_)
      repeat' first | refine And.intro ?_ ?_ | intro
      all_goals refine leaf ?_
      refine loopN [0, 1, 2, 7, 26, 27, 28] (l.length - 1) (fun i vs L => ∃ o, vs = [.int .i64 most, .slice s 0 l.length 15, .int .i64 top, .slice o 0 (tailE l i).length 14, .slice s 15 (l.length - 1) 15, .int .i64 ((l.length - 1 : Nat) : Int), .int .i64 (i : Nat)] ∧ L = [EL o true (tailE l i), RL s b l])
        (Nx.hereW [_, _, _, .slice 0 0 0 14, _, _, _] ⟨0, rfl, rfl⟩) ?_
      clear hh
      rintro i _ _ env H hi ⟨o, rfl, rfl⟩ hh
      simp only [puts]
      have hte : (tailE l i).length ≤ 30 := by rw [List.length_map, List.length_take, List.length_drop]; omega
      by_cases hn : i + 1 < l.length
      · have hst := tailE_snoc hn
        have hint : Hint Entry.enc (nth l (i + 1)).e := trivial
        refine walk1 (k := ?_)
        repeat' first | refine And.intro ?_ ?_ | intro
        all_goals refine leaf ?_
        refine c_cond_t (by show V.bool _ = _; simp; omega) ?_
        refine walk1 (k := ?_)
        repeat' first | refine And.intro ?_ ?_ | intro
        all_goals refine leaf ?_
        refine wps_slot (s := 30) (v := .ptr s ((i + 1) * 15)) (by show V.ptr s (15 + (i : Int).toNat * 15) = _; congr 1; omega) ?_
        refine walk1 (k := ?_)
        repeat' first | refine And.intro ?_ ?_ | intro
        all_goals refine leaf ?_
        rename_i o2 _ _
        exact Nx.next (by omega) ⟨o2, by rw [hst]; rfl, by rw [hst]⟩
      · have hT : tailE l i = tailE l (l.length - 1) := by rw [show i = l.length - 1 by omega]
        rw [hT] at hh ⊢
        have hTm : ∀ e ∈ tailE l (l.length - 1), e.key.length ≤ 1000000 ∧ e.method.length + e.path.length + e.body.length ≤ 9000000000000000000 := fun e he => by
          obtain ⟨r, hr, rfl⟩ := tailE_mem he
          have := hsm r hr
          exact ⟨by omega, by omega⟩
        rw [hT] at hte
        generalize tailE l (l.length - 1) = T at *
        refine walk1 (k := ?_)
        repeat' first | refine And.intro ?_ ?_ | intro
        all_goals refine leaf ?_
        refine c_cond_f (by show V.bool _ = _; simp; omega) ?_
        refine walk1 (k := ?_)
        repeat' first | refine And.intro ?_ ?_ | intro
        all_goals refine leaf ?_
        refine callL (snew_prog most) ?_
        rintro v L0 H' ⟨sid, rfl, hst⟩ hh
        refine walk1 (k := ?_)
        repeat' first | refine And.intro ?_ ?_ | intro
        all_goals refine leaf ?_
        rename_i w _ hh
        have hok := SOk.new most
        have hld := sload_prog sid o true ⟨most, [], 0⟩ L0 T top hst hok (by omega) fun e he => (hTm e he).2
        have hwl := wload0_prog w o true most T top (by omega) fun e he => (hTm e he).1
        have hok1 := loadS_ok (l := T) (top := top) hok
        generalize loadI ⟨most, [], 0⟩ T top = c1 at *
        generalize loadS ⟨most, [], 0⟩ T top = st1 at *
        have hlen1 := hok1.len
        refine callL (hld) ?_
        rintro v L' H' ⟨L1, rfl, hst1, rfl⟩ hh
        refine callL (hwl) ?_
        rintro v L' H' ⟨o1, rfl, rfl⟩ hh
        clear hld hwl hst
        have htp := stop_prog sid st1 L1 hst1
        have hal := sall_prog sid st1 L1 hst1 hok1
        refine walk1 (k := ?_)
        repeat' first | refine And.intro ?_ ?_ | intro
        all_goals refine leaf ?_
        refine wps_slot (s := 52) (v := .bool false) (by show V.bool _ = _; simp) ?_
        refine walk1 (k := ?_)
        repeat' first | refine And.intro ?_ ?_ | intro
        all_goals refine leaf ?_
        refine callE (htp) ?_
        refine walk1 (k := ?_)
        repeat' first | refine And.intro ?_ ?_ | intro
        all_goals refine leaf ?_
        refine wps_slot (s := 61) (v := .bool false) (by show V.bool _ = _; simp) ?_
        refine walk1 (k := ?_)
        repeat' first | refine And.intro ?_ ?_ | intro
        all_goals refine leaf ?_
        refine callN (hal) ?_
        rintro v Lo H' ⟨o3, rfl, rfl⟩ hh
        have hsa := rsameE_prog o3 o1 true true st1.l st1.l (by omega)
        rw [decide_eq_true rfl] at hsa
        refine walk1 (k := ?_)
        repeat' first | refine And.intro ?_ ?_ | intro
        all_goals refine leaf ?_
        refine callE (hsa) ?_
        refine walk1 (k := ?_)
        repeat' first | refine And.intro ?_ ?_ | intro
        all_goals refine leaf ?_
        have hr0 : smlR (nth l 0) := hsm _ (nth_mem (by omega))
        have hap := sapply_prog sid st1 L1 (nth l 0) hst1 hok1 (by omega)
        have hwp := wapp_prog w o1 st1 (nth l 0) hok1 (by omega)
        have hok2 := hok1.app (nth l 0)
        generalize nth l 0 = r at *
        generalize chkI st1 r = ck at *
        generalize appS st1 r = st2 at *
        refine callK hap ?_
        rintro v L2 H' ⟨rfl, hst2⟩ hh
        clear hap hst1 htp hal
        refine callL (hwp) ?_
        rintro v L' H' ⟨o2, rfl, rfl⟩ hh
        clear hwp
        refine walk1 (k := ?_)
        repeat' first | refine And.intro ?_ ?_ | intro
        all_goals refine leaf ?_
        refine wps_slot (s := 82) (v := .bool false) (by show V.bool _ = _; simp) ?_
        have hld := sloadnil_prog sid st2 L2 1 hst2 hok2
        have hwl := wloadnil_prog w o2 st2 1 hok2
        have hok3 := loadS_ok (l := []) (top := 1) hok2
        generalize loadI st2 [] 1 = c2 at *
        generalize loadS st2 [] 1 = st3 at *
        have hlen3 := hok3.len
        refine walk1 (k := ?_)
        repeat' first | refine And.intro ?_ ?_ | intro
        all_goals refine leaf ?_
        refine callL (hld) ?_
        rintro v L' H' ⟨L3, rfl, hst3, rfl⟩ hh
        clear hld hst2
        refine walk1 (k := ?_)
        repeat' first | refine And.intro ?_ ?_ | intro
        all_goals refine leaf ?_
        refine callL (hwl) ?_
        rintro v L' H' ⟨o4, rfl, rfl⟩ hh
        clear hwl
        have htp := stop_prog sid st3 L3 hst3
        have hal := sall_prog sid st3 L3 hst3 hok3
        have hu1 := sused_prog sid st3 L3 0 hst3 hok3
        have hu2 := wused_prog w o4 st3 0 (by omega)
        refine walk1 (k := ?_)
        repeat' first | refine And.intro ?_ ?_ | intro
        all_goals refine leaf ?_
        refine c_cond_f (by show V.bool _ = _; simp) ?_
        refine walk1 (k := ?_)
        repeat' first | refine And.intro ?_ ?_ | intro
        all_goals refine leaf ?_
        refine callE (snext_nil 0) ?_
        refine walk1 (k := ?_)
        repeat' first | refine And.intro ?_ ?_ | intro
        all_goals refine leaf ?_
        refine callE (htp) ?_
        refine walk1 (k := ?_)
        repeat' first | refine And.intro ?_ ?_ | intro
        all_goals refine leaf ?_
        refine wps_slot (s := 101) (v := .bool true) (by show V.bool _ = _; simp) ?_
        refine walk1 (k := ?_)
        repeat' first | refine And.intro ?_ ?_ | intro
        all_goals refine leaf ?_
        refine callN (hal) ?_
        rintro v Lo H' ⟨o5, rfl, rfl⟩ hh
        have hsa := rsameE_prog o5 o4 true true st3.l st3.l (by omega)
        rw [decide_eq_true rfl] at hsa
        refine walk1 (k := ?_)
        repeat' first | refine And.intro ?_ ?_ | intro
        all_goals refine leaf ?_
        refine callE (hsa) ?_
        refine walk1 (k := ?_)
        repeat' first | refine And.intro ?_ ?_ | intro
        all_goals refine leaf ?_
        refine callE (hu1) ?_
        refine walk1 (k := ?_)
        repeat' first | refine And.intro ?_ ?_ | intro
        all_goals refine leaf ?_
        refine callE (hu2) ?_
        refine walk1 (k := ?_)
        repeat' first | refine And.intro ?_ ?_ | intro
        all_goals refine leaf ?_
        refine wps_slot (s := 117) (v := .bool true) (by show V.bool _ = _; simp) ?_
        refine walk1 (k := ?_)
        repeat' first | refine And.intro ?_ ?_ | intro
        all_goals refine leaf ?_
        refine callE (sapply_nil (nth l 0)) ?_
        refine walk1 (k := ?_)
        repeat' first | refine And.intro ?_ ?_ | intro
        all_goals refine leaf ?_
        refine callE (scheck_nil (nth l 0)) ?_
        refine walk1 (k := ?_)
        repeat' first | refine And.intro ?_ ?_ | intro
        all_goals refine leaf ?_
        refine callE (sload_nil 0) ?_
        refine walk1 (k := ?_)
        repeat' first | refine And.intro ?_ ?_ | intro
        all_goals refine leaf ?_
        refine callE (slen_nil) ?_
        refine walk1 (k := ?_)
        repeat' first | refine And.intro ?_ ?_ | intro
        all_goals refine leaf ?_
        refine callE (stop_nil) ?_
        refine walk1 (k := ?_)
        repeat' first | refine And.intro ?_ ?_ | intro
        all_goals refine leaf ?_
        refine callE (sused_nil 0) ?_
        refine walk1 (k := ?_)
        repeat' first | refine And.intro ?_ ?_ | intro
        all_goals refine leaf ?_
        refine callE (sall_nil) ?_
        refine walk1 (k := ?_)
        repeat' first | refine And.intro ?_ ?_ | intro
        all_goals refine leaf ?_
        refine callE (sexp_nil 0) ?_
        refine walk1 (k := ?_)
        repeat' first | refine And.intro ?_ ?_ | intro
        all_goals refine leaf ?_
        refine callE (safter_nil 0 1 []) ?_
        refine walk1 (k := ?_)
        repeat' first | refine And.intro ?_ ?_ | intro
        all_goals refine leaf ?_
        exact doneR rfl
end Go.Proofs.YtjgcgepfidcihaaGreatDoor

namespace Go.Proofs.YtjgcgepfidcihaaGreatDoor
open Go Go.CM
set_option maxRecDepth 100000
set_option maxHeartbeats 4000000

theorem entOf {cs : List V} (h : Fits [.i .i64, .s, .i .i64, .i .i64, .i .i64, .i .i64, .s, .i .i64, .i .i64, .i .i64, .s, .s, .s, .s] cs) : ∃ j : Entry, cs = j.enc := by
  obtain ⟨_, _, rfl, ⟨xa, rfl, _⟩, h0⟩ := h.cons
  obtain ⟨_, _, rfl, ⟨xb, rfl, _⟩, h1⟩ := h0.cons
  obtain ⟨_, _, rfl, ⟨xc, rfl, _⟩, h2⟩ := h1.cons
  obtain ⟨_, _, rfl, ⟨xd, rfl, _⟩, h3⟩ := h2.cons
  obtain ⟨_, _, rfl, ⟨xe, rfl, _⟩, h4⟩ := h3.cons
  obtain ⟨_, _, rfl, ⟨xf, rfl, _⟩, h5⟩ := h4.cons
  obtain ⟨_, _, rfl, ⟨xg, rfl, _⟩, h6⟩ := h5.cons
  obtain ⟨_, _, rfl, ⟨xh, rfl, _⟩, h7⟩ := h6.cons
  obtain ⟨_, _, rfl, ⟨xi, rfl, _⟩, h8⟩ := h7.cons
  obtain ⟨_, _, rfl, ⟨xj, rfl, _⟩, h9⟩ := h8.cons
  obtain ⟨_, _, rfl, ⟨xk, rfl, _⟩, h10⟩ := h9.cons
  obtain ⟨_, _, rfl, ⟨xl, rfl, _⟩, h11⟩ := h10.cons
  obtain ⟨_, _, rfl, ⟨xm, rfl, _⟩, h12⟩ := h11.cons
  obtain ⟨_, _, rfl, ⟨xn, rfl, _⟩, h13⟩ := h12.cons
  obtain rfl := h13.nil
  exact ⟨⟨xa, xb, xc, xd, xe, xf, xg, xh, xi, xj, xk, xl, xm, xn⟩, rfl⟩
theorem recOf {cs : List V} (h : Fits [.i .i64, .i .i64, .s, .i .i64, .i .i64, .i .i64, .i .i64, .s, .i .i64, .i .i64, .i .i64, .s, .s, .s, .s] cs) : ∃ j : Rec, cs = j.enc := by
  obtain ⟨_, _, rfl, ⟨a, rfl, _⟩, h1⟩ := h.cons
  obtain ⟨e, rfl⟩ := entOf h1
  exact ⟨⟨a, e⟩, rfl⟩
end Go.Proofs.YtjgcgepfidcihaaGreatDoor

namespace Go.Proofs.YtjgcgepfidcihaaGreatDoor
open Go Go.CM
set_option maxRecDepth 100000
set_option maxHeartbeats 4000000

theorem walkStoreLoads (vs : List V) (H : Heap) (hg : Givens H 1 [.one (.i .i64), .rows [.i .i64, .i .i64, .s, .i .i64, .i .i64, .i .i64, .i .i64, .s, .i .i64, .i .i64, .i .i64, .s, .s, .s, .s], .one (.i .i64)] vs) (_ : ∀ id o, H id = some o → o.rw = false) : CallsC Tryz.prog nlaw18_StoreLoads vs H fun v _ => v = .bool true := by
  obtain ⟨_, vs, rfl, ⟨most, rfl, _⟩, hg1⟩ := hg.cons
  obtain ⟨_, vs, rfl, ⟨rs, hf, hlen, hr⟩, hg2⟩ := hg1.cons
  obtain ⟨_, vs, rfl, ⟨top, rfl, _⟩, hg3⟩ := hg2.cons
  obtain rfl := hg3.nil
  obtain ⟨l, rfl⟩ := rowsOf Rec.enc (fun r hr => recOf (hf r hr))
  obtain ⟨s, rfl, hs1, hs⟩ := givenRowsA hr
  have hh := hs [] (Has.nil H) (by simp)
  exact (CallsR.reads (R := []) (loads_prog most s false l top) hh).mono fun _ _ h => h.1
end Go.Proofs.YtjgcgepfidcihaaGreatDoor
