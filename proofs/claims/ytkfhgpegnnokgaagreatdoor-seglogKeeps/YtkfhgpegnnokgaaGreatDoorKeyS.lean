/-
  The keys of a map of texts, collected and sorted.
-/
import Derived.Test.YtkfhgpegnnokgaaGreatDoorC0
import Derived.Test.YtkfhgpegnnokgaaGreatDoorC1
import Derived.Test.YtkfhgpegnnokgaaGreatDoorC2
import Derived.Test.YtkfhgpegnnokgaaGreatDoorCmX
import Derived.Test.YtkfhgpegnnokgaaGreatDoorCmG
import Derived.Test.YtkfhgpegnnokgaaGreatDoorSrt
namespace Go.Proofs.YtkfhgpegnnokgaaGreatDoor
open Go Go.CM
set_option maxRecDepth 100000
set_option maxHeartbeats 4000000

abbrev Tx := List UInt8
def txC (s : Tx) : List V := [.str s]
abbrev TL (s : Nat) (b : Bool) (l : List Tx) : Ob := (s, .cells b (l.flatMap txC))
def nvE (p : Tx × V) : V × V := (.str p.1, p.2)
theorem keys_prog (m : Nat) : CallsL Tryz.prog nmaps_Keys_string [.map m] [] fun v L' => ∃ b, v = .func nmaps_Keys_1_string [.ptr b 0] ∧ L' = [(b, .cells true [.map m])] := by
  refine smaps_Keys_string fun H hh => ?_
  dsimp only [cmaps_Keys_string]
  refine walk (k := ?_)
  repeat' first | refine And.intro ?_ ?_ | intro
  all_goals refine leaf ?_
  rename_i b _ _
  exact done ⟨b, rfl, rfl⟩
def apA : C := .ops [m_ 5 7]
def apB : C := .block 1 (.ops [r_ 8 (.load1 (.t 2)), m_ 9 5, e_ 10 (.lit 1 1 [.str []] [(0, 1, .t 9)]), e_ 11 (.app 1 16 (.t 8) (.t 10)), w_ (.store 1 (.t 2) (.t 11))])
theorem mixed : Tryz.prog.follows .mixedOrders = true := by kernel_rfl
theorem nodup_lt_len {n : Nat} {is : List Nat} (h : is.Nodup) (hl : ∀ i ∈ is, i < n) : is.length ≤ n := by
  have hp : is.Perm ((List.range n).filter fun i => decide (i ∈ is)) := by
    rw [List.perm_ext_iff_of_nodup h (List.nodup_range.filter _)]
    intro i
    rw [List.mem_filter, List.mem_range, decide_eq_true_eq]
    exact ⟨fun hi => ⟨hl i hi, hi⟩, fun hi => hi.2⟩
  rw [hp.length_eq]
  have := List.length_filter_le (fun i => decide (i ∈ is)) (List.range n)
  rwa [List.length_range] at this
theorem keys1_prog (l b m sb D fn : Nat) (nv : List (Tx × V)) (vs : List V) (asg bdy : Code) (hca : comp Tryz.prog 13 asg = some apA) (hcb : comp Tryz.prog 13 bdy = some apB) (hn : vs.length = 13) (hs : vs[2]? = some (.ptr sb 0)) (hl : nv.length ≤ 100000) :
    CallsL Tryz.prog nmaps_Keys_1_string [.yield l, .ptr b 0] [(l, .round vs D fn #[7] asg bdy), (b, .cells true [.map m]), (m, .map (nv.map nvE)), (sb, .cells true [.slice 0 0 0 1]), TL 0 true []] fun _ L' => ∃ o ks, ks.Perm (nv.map (·.1)) ∧ L' = [(l, .round vs D fn #[7] asg bdy), (b, .cells true [.map m]), (m, .map (nv.map nvE)), (sb, .cells true [.slice o 0 ks.length 1]), TL o true ks] := by
  refine smaps_Keys_1_string fun H hh => ?_
  dsimp only [cmaps_Keys_1_string]
  refine walk (k := ?_)
  repeat' first | refine And.intro ?_ ?_ | intro
  all_goals refine leaf ?_
  refine wps_rangeM (by assumption) (id := m) (es := nv.map nvE) (L' := fun bs clk => [(l, .round vs D fn #[7] asg bdy), (b, .cells true [.map m]), (m, .mapS (nv.map nvE) bs clk), (sb, .cells true [.slice 0 0 0 1]), TL 0 true []]) rfl (fun bs clk => .there (.there .here1)) fun bs clk it H' hbl hbn hh => ?_
  refine walk1 (k := ?_)
  repeat' first | refine And.intro ?_ ?_ | intro
  all_goals refine leaf ?_
  rw [List.length_map] at hbl
  refine loopM [0, 5] (fun k vs' L => ∃ is o ks seen, k = nv.length - is.length ∧ is.Nodup ∧ (∀ i ∈ is, i < nv.length) ∧ seen = is.map (fun i => nth bs i) ∧ ks = is.map (fun i => (nth (nv.map (·.1)) i)) ∧ vs' = [.yield l, .ptr it 0] ∧
      L = [(it, .miter m clk seen clk), (l, .round vs D fn #[7] asg bdy), (b, .cells true [.map m]), (m, .mapS (nv.map nvE) bs clk), (sb, .cells true [.slice o 0 ks.length 1]), TL o true ks])
    (Nx.intro (i := nv.length) trivial ⟨[], 0, [], [], rfl, List.nodup_nil, by simp, rfl, rfl, rfl, rfl⟩) ?_
  clear hh
  rintro k _ _ e H ⟨is, o, ks, seen, rfl, hnd, hlt, hseen, hks, rfl, rfl⟩ hh
  simp only [puts]
  refine walk1 (k := ?_)
  repeat' first | refine And.intro ?_ ?_ | intro
  all_goals refine leaf ?_
  refine wps_nextM (by assumption) (it := it) (mid := m) (clk := clk) (es := nv.map nvE) (bs := bs) (seen := seen) (L' := fun x => [(it, .miter m clk (seen ++ [x]) clk), (l, .round vs D fn #[7] asg bdy), (b, .cells true [.map m]), (m, .mapS (nv.map nvE) bs clk), (sb, .cells true [.slice o 0 ks.length 1]), TL o true ks]) rfl (by simp) (fun _ => .here1) (fun hall => ?_) fun i ee x H' he hx hns hh => ?_
  · skip
    refine walk1 (k := ?_)
    repeat' first | refine And.intro ?_ ?_ | intro
    all_goals refine leaf ?_
    have m0 : m ≠ 0 := hh.ne00 (o := .mapS (nv.map nvE) bs clk) (by simp) (fun b h => by cases h)
    obtain ⟨H2, hw, hh2⟩ := Has.wk hh m0 (L' := [(it, .miter m clk seen clk), (l, .round vs D fn #[7] asg bdy), (b, .cells true [.map m]), (m, .map (nv.map nvE)), (sb, .cells true [.slice o 0 ks.length 1]), TL o true ks]) (.there (.there (.there .here1))) (.mapS _ _ _ _ rfl (Wks.refl _))
    refine ⟨.tup [], _, H2, Wk.refl _, hw, ⟨o, ks, ?_, rfl⟩, hh2.tail⟩
    have hp : is.Perm (List.range nv.length) := by
      rw [List.perm_ext_iff_of_nodup hnd List.nodup_range]
      intro i
      rw [List.mem_range]
      refine ⟨hlt i, fun hi => ?_⟩
      have hib : i < bs.length := by omega
      have := hall (nth bs i) (nth_mem hib)
      rw [hseen] at this
      obtain ⟨j, hj, he⟩ := List.mem_map.1 this
      have hjb : j < bs.length := by have := hlt j hj; omega
      rw [nth_getElem hjb, nth_getElem hib] at he
      rw [List.nodup_iff_pairwise_ne, List.pairwise_iff_getElem] at hbn
      rcases Nat.lt_trichotomy j i with h | rfl | h
      · exact absurd he (hbn j i hjb hib h)
      · exact hj
      · exact absurd he.symm (hbn i j hib hjb h)
    rw [hks]
    refine (hp.map _).trans ?_
    have hr : (List.range nv.length).map (fun i => nth (nv.map (·.1)) i) = nv.map (·.1) := by
      apply List.ext_getElem?
      intro i
      rw [List.getElem?_map]
      by_cases hi : i < nv.length
      · rw [List.getElem?_range hi, Option.map_some, getD_some (by simpa using hi)]
      · rw [List.getElem?_eq_none (by simpa using hi), List.getElem?_eq_none (by simpa using hi)]; rfl
    rw [hr]
  · obtain ⟨hi, hie⟩ := List.getElem?_eq_some_iff.1 he
    rw [List.length_map] at hi
    have hee : ee = nvE (nth nv i) := by rw [← hie, List.getElem_map, nth_getElem hi]
    subst hee
    have hxn : nth bs i = x := nth_of hx
    have hni : i ∉ is := fun h => hns (by rw [hseen, ← hxn]; exact List.mem_map_of_mem h)
    refine walk1 (k := ?_)
    repeat' first | refine And.intro ?_ ?_ | intro
    all_goals refine leaf ?_
    refine wps_entryM (by assumption) (it := it) (mid := m) (clk := clk) (es := nv.map nvE) (bs := bs) (seen := seen) (b := x) (i := i) rfl (by simp) (by simp) he hx ?_
    refine walk1 (k := ?_)
    repeat' first | refine And.intro ?_ ?_ | intro
    all_goals refine leaf ?_
    refine wps_yield mixed hh (R := [(it, .miter m clk (seen ++ [x]) clk), (b, .cells true [.map m]), (m, .mapS (nv.map nvE) bs clk), (sb, .cells true [.slice o 0 ks.length 1]), TL o true ks]) (l := l) (v := .str (nth nv i).1) (J := fun L2 => ∃ o2, L2 = [(it, .miter m clk (seen ++ [x]) clk), (b, .cells true [.map m]), (m, .mapS (nv.map nvE) bs clk), (sb, .cells true [.slice o2 0 (ks ++ [(nth nv i).1]).length 1]), TL o2 true (ks ++ [(nth nv i).1])]) (n := 13) (p := 7) (D := D) (fn := fn) (vs := vs) (asg := asg) (bdy := bdy) rfl rfl ?_ hca hcb hn (by decide) ?_ ?_
    · exact List.Perm.swap _ _ _
    · intro H0 hh
      refine c_slot (s := 2) (v := .ptr sb 0) (by simp [env0, hs, Env.put]; rfl) ?_
      have hint : Hint txC (nth nv i).1 := trivial
      have hkl : ks.length ≤ 100000 := by
        rw [hks, List.length_map]
        have := nodup_lt_len hnd hlt
        omega
      dsimp only [apA, apB]
      refine walk1 (k := ?_)
      repeat' first | refine And.intro ?_ ?_ | intro
      all_goals refine leaf ?_
      refine ⟨rfl, ?_⟩
      refine walk1 (k := ?_)
      repeat' first | refine And.intro ?_ ?_ | intro
      all_goals refine leaf ?_
      exact ⟨rfl, _, ⟨_, rfl⟩, by assumption⟩
    · rintro L2 H' ⟨o2, rfl⟩ hh
      have hnd2 : (is ++ [i]).Nodup := List.nodup_append.2 ⟨hnd, by simp, fun a ha b hb => by simp at hb; subst hb; exact fun e => hni (e ▸ ha)⟩
      have hlt2 : ∀ j ∈ is ++ [i], j < nv.length := fun j hj => by
        rcases List.mem_append.1 hj with h | h
        · exact hlt j h
        · simp at h; omega
      have hll := nodup_lt_len hnd2 hlt2
      rw [List.length_append, List.length_singleton] at hll
      refine walk1 (k := ?_)
      repeat' first | refine And.intro ?_ ?_ | intro
      all_goals refine leaf ?_
      exact Nx.intro (i := nv.length - (is ++ [i]).length) (by rw [List.length_append, List.length_singleton]; omega) ⟨is ++ [i], o2, ks ++ [(nth nv i).1], seen ++ [x], rfl, hnd2, hlt2, by rw [hseen, List.map_append, List.map_singleton, hxn], by rw [hks, List.map_append, List.map_singleton, nth_map (f := fun x : Tx × V => x.1) hi], rfl, rfl⟩
theorem aps_step {H2 : Heap} {sb b m l D fnid : Nat} {nv : List (Tx × V)} {env2 : Env} {asg bdy : Code} (hca : comp Tryz.prog 13 asg = some apA) (hcb : comp Tryz.prog 13 bdy = some apB) (he : env2 2 = .ptr sb 0) (hl : nv.length ≤ 100000) (hl0 : l ≠ 0) (hl1 : H2 l = none)
    (hh : Has H2 [(sb, .cells true [.nils]), (b, .cells true [.map m]), (m, .map (nv.map nvE))]) :
    CallsC Tryz.prog nmaps_Keys_1_string [.yield l, .ptr b 0] (H2.set l (.round ((List.range 13).map env2) D fnid #[7] asg bdy)) fun _ H3 => H3 l = some (.round ((List.range 13).map env2) D fnid #[7] asg bdy) ∧ ∃ v, (R.load1 (.t 2)).ev env2 (H3.del l) = some v ∧
      ∃ L', (∃ o ks, ks.Perm (nv.map (·.1)) ∧ v = .slice o 0 ks.length 1 ∧ L' = [(b, .cells true [.map m]), (m, .map (nv.map nvE)), TL o true ks]) ∧ Has (H3.del l) L' := by
  have hh1 := hh.new (o := .round ((List.range 13).map env2) D fnid #[7] asg bdy) hl0 hl1
  have s0 : sb ≠ 0 := hh.ne00 (o := .cells true [.nils]) (by simp) (fun b h => by cases h)
  obtain ⟨H4, hw, hh2⟩ := Has.wk hh1 s0 (L' := [(l, .round ((List.range 13).map env2) D fnid #[7] asg bdy), (sb, .cells true [.slice 0 0 0 1]), (b, .cells true [.map m]), (m, .map (nv.map nvE))]) (.there .here1) (.cells _ _ (Wks.wkp (.cons (Wk.nils _ _) .nil)))
  have hh3 := (hh2.ghost true).perm (L' := [(l, .round ((List.range 13).map env2) D fnid #[7] asg bdy), (b, .cells true [.map m]), (m, .map (nv.map nvE)), (sb, .cells true [.slice 0 0 0 1]), TL 0 true []]) (by
    refine (List.perm_append_comm (l₁ := [_]) (l₂ := [_, _, _, _])).trans ?_
    exact List.Perm.cons _ ((List.Perm.swap _ _ _).trans (List.Perm.cons _ (List.Perm.swap _ _ _))))
  refine CallsC.wkHeap hw ((keys1_prog l b m sb D fnid nv _ asg bdy hca hcb (by simp) (by simp [he]) hl H4 hh3).mono ?_)
  rintro v H3 ⟨L', ⟨o, ks, hp, rfl⟩, h3⟩
  refine ⟨h3.get (List.mem_cons_self ..) hl0, .slice o 0 ks.length 1, ?_, _, ⟨o, ks, hp, rfl, rfl⟩, ?_⟩
  · have hd := h3.drop1 hl0
    have hg : (H3.del l) sb = some (.cells true [.slice o 0 ks.length 1]) := hd.get (by simp) s0
    simp [R.ev, X.ev, he, hg]
  · have hd := h3.drop1 hl0
    exact hd.sub (.cons_cons _ (.cons_cons _ (.cons _ (List.Sublist.refl _))))
theorem appendSeq_prog (b m : Nat) (nv : List (Tx × V)) (hl : nv.length ≤ 100000) : CallsL Tryz.prog nslices_AppendSeq_string [.nils, .func nmaps_Keys_1_string [.ptr b 0]] [(b, .cells true [.map m]), (m, .map (nv.map nvE))] fun v L' =>
    ∃ o ks, ks.Perm (nv.map (·.1)) ∧ v = .slice o 0 ks.length 1 ∧ L' = [(b, .cells true [.map m]), (m, .map (nv.map nvE)), TL o true ks] := by
  intro H hh
  refine loopF_sound (g := 6) (p := 7) (t2 := 2) (t12 := 12) (t4 := 4) mixed Tryz.func98 (by kernel_rfl) (hb := rfl) (by decide) (c0 := .ops [e_ 2 (.box (.t 0)), k_ 4 .nils]) (c1 := .ops [m_ 6 1]) (by kernel_rfl) (by kernel_rfl) (by kernel_rfl) (by kernel_rfl) rfl rfl rfl rfl (by decide) (by decide) rfl (Nat.le_of_ble_eq_true rfl) ?_
  refine walk1 (k := ?_)
  repeat' first | refine And.intro ?_ ?_ | intro
  all_goals refine leaf ?_
  refine ⟨rfl, ?_⟩
  refine walk1 (k := ?_)
  repeat' first | refine And.intro ?_ ?_ | intro
  all_goals refine leaf ?_
  rename_i sb H2 hh
  refine ⟨rfl, _, _, rfl, fun l D fnid hl0 hl1 => ?_⟩
  exact aps_step (by kernel_rfl) (by kernel_rfl) rfl hl hl0 hl1 hh
theorem collect_prog (b m : Nat) (nv : List (Tx × V)) (hl : nv.length ≤ 100000) : CallsL Tryz.prog nslices_Collect_string [.func nmaps_Keys_1_string [.ptr b 0]] [(b, .cells true [.map m]), (m, .map (nv.map nvE))] fun v L' =>
    ∃ o ks, ks.Perm (nv.map (·.1)) ∧ v = .slice o 0 ks.length 1 ∧ L' = [(b, .cells true [.map m]), (m, .map (nv.map nvE)), TL o true ks] := by
  refine sslices_Collect_string fun H hh => ?_
  dsimp only [cslices_Collect_string]
  refine walk (k := ?_)
  repeat' first | refine And.intro ?_ ?_ | intro
  all_goals refine leaf ?_
  refine callL (appendSeq_prog b m nv hl) ?_
  rintro v L' H' ⟨o, ks, hp, rfl, rfl⟩ hh
  refine walk1 (k := ?_)
  repeat' first | refine And.intro ?_ ?_ | intro
  all_goals refine leaf ?_
  exact done ⟨o, ks, hp, rfl, rfl⟩
theorem sortS_is : Sort1 Tryz.prog nslices_Sort_string encStr fun l => l.mergeSort fun x y => decide (x ≤ y) :=
  ⟨⟨_, Tryz.sortS.f190, by kernel_rfl, by kernel_rfl⟩, fun blk off cap zs w h1 h2 h3 => Any.slices_Sort_string Tryz.sortS blk off cap zs w h1 h2 h3, fun p cap w => Any.slices_Sort_string_none Tryz.sortS p cap w, fun zs => List.length_mergeSort zs⟩
def srtT (l : List Tx) : List Tx := l.mergeSort fun x y => decide (x ≤ y)
theorem srtT_perm (l : List Tx) : (srtT l).Perm l := List.mergeSort_perm _ _
theorem srtT_of {a b : List Tx} (h : a.Perm b) : srtT a = srtT b := by
  have tr : ∀ x y z : Tx, decide (x ≤ y) = true → decide (y ≤ z) = true → decide (x ≤ z) = true := fun x y z h1 h2 => decide_eq_true (List.le_trans (of_decide_eq_true h1) (of_decide_eq_true h2))
  have to : ∀ x y : Tx, (decide (x ≤ y) || decide (y ≤ x)) = true := fun x y => by
    rcases List.le_total x y with h | h
    · rw [decide_eq_true h]; rfl
    · rw [decide_eq_true h]; exact Bool.or_true _
  refine List.Perm.eq_of_pairwise (le := fun x y => decide (x ≤ y) = true) (fun x y _ _ h1 h2 => List.le_antisymm (of_decide_eq_true h1) (of_decide_eq_true h2)) (List.pairwise_mergeSort tr to a) (List.pairwise_mergeSort tr to b) ?_
  exact (List.mergeSort_perm _ _).trans (h.trans (List.mergeSort_perm _ _).symm)
theorem sortS_prog (o : Nat) (ks : List Tx) (hl : ks.length ≤ 100000) : CallsL Tryz.prog nslices_Sort_string [.slice o 0 ks.length 1] [TL o true ks] fun v L' => v = .tup [] ∧ L' = [TL o true (srtT ks)] :=
  sortTexts sortS_is ks (by omega)
theorem sorted_prog (b m : Nat) (nv : List (Tx × V)) (hl : nv.length ≤ 100000) : CallsL Tryz.prog nslices_Sorted_string [.func nmaps_Keys_1_string [.ptr b 0]] [(b, .cells true [.map m]), (m, .map (nv.map nvE))] fun v L' =>
    ∃ o, v = .slice o 0 (srtT (nv.map (·.1))).length 1 ∧ L' = [(b, .cells true [.map m]), (m, .map (nv.map nvE)), TL o true (srtT (nv.map (·.1)))] := by
  refine sslices_Sorted_string fun H hh => ?_
  dsimp only [cslices_Sorted_string]
  refine walk (k := ?_)
  repeat' first | refine And.intro ?_ ?_ | intro
  all_goals refine leaf ?_
  refine callL (collect_prog b m nv hl) ?_
  rintro v L' H' ⟨o, ks, hp, rfl, rfl⟩ hh
  have hkl : ks.length ≤ 100000 := by rw [hp.length_eq, List.length_map]; exact hl
  have e : srtT ks = srtT (nv.map (·.1)) := srtT_of hp
  have el : ks.length = (srtT (nv.map (·.1))).length := by rw [← e, (srtT_perm ks).length_eq]
  refine walk1 (k := ?_)
  repeat' first | refine And.intro ?_ ?_ | intro
  all_goals refine leaf ?_
  refine callL (sortS_prog o ks hkl) ?_
  rintro v L' H' ⟨rfl, rfl⟩ hh
  rw [e] at hh
  rw [el]
  refine walk1 (k := ?_)
  repeat' first | refine And.intro ?_ ?_ | intro
  all_goals refine leaf ?_
  exact done ⟨o, rfl, rfl⟩
end Go.Proofs.YtkfhgpegnnokgaaGreatDoor
