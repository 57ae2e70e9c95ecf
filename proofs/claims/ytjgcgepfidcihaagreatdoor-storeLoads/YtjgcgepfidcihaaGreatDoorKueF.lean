/-
  The queue of what is due: names, and its own functions.
-/
import Derived.Test.YtjgcgepfidcihaaGreatDoorKueD
namespace Go.Proofs.YtjgcgepfidcihaaGreatDoor.Que
open Go Go.CM
set_option maxRecDepth 100000
set_option maxHeartbeats 4000000

def nm (d : Due) : Int × List UInt8 := (d.tenant, d.key)
def entN (x : It) : Nat × (Int × List UInt8) := (x.1, nm x.2)
def nmV (n : Int × List UInt8) : V := .agg [.int .i64 n.1, .str n.2]
def entE (x : It) : V × V := (nmV (nm x.2), .ptr x.1 0)
abbrev kt : KT := (true, [.i, .s])
def isN (n : Int × List UInt8) (x : It) : Bool := n.1 == x.2.tenant && (n.2 == x.2.key && true)
theorem isN_iff {n : Int × List UInt8} {x : It} : isN n x = true ↔ nm x.2 = n := by
  obtain ⟨a, b⟩ := n
  simp only [isN, nm, Bool.and_eq_true, beq_iff_eq, Bool.and_true, Prod.mk.injEq]
  exact ⟨fun h => ⟨h.1.symm, h.2.symm⟩, fun h => ⟨h.1.symm, h.2.symm⟩⟩
theorem find_ms (n : Int × List UInt8) : ∀ ms : Its, findI kt (nmV n) (ms.map entE) = some (ms.findIdx? (isN n))
  | [] => rfl
  | x :: ms => by
    have ih := find_ms n ms
    simp only [List.map_cons, findI, List.findIdx?_cons]
    have e : eqKey kt (nmV n) (entE x).1 = some (isN n x) := rfl
    rw [e]
    cases h : isN n x with
    | true => rfl
    | false =>
      rw [ih]
      cases ms.findIdx? (isN n) <;> rfl

structure QOk (its ms : Its) : Prop where
  heap : Heapy its its.length
  nd : (its.map fun x => nm x.2).Nodup
  names : (ms.map entN).Perm (its.map entN)
abbrev QL (q s mid : Nat) (ms its : Its) : List Ob := QO q s its.length mid :: rowO s its :: (mid, .map (ms.map entE)) :: itO its

theorem QOk.of_ms {its ms : Its} (h : QOk its ms) {x : It} (hx : x ∈ ms) : ∃ i, i < its.length ∧ entN (nth its i) = entN x := by
  have : entN x ∈ its.map entN := h.names.mem_iff.1 (List.mem_map_of_mem hx)
  obtain ⟨y, hy, e⟩ := List.mem_map.1 this
  obtain ⟨i, hi, rfl⟩ := List.mem_iff_getElem.1 hy
  exact ⟨i, hi, by rw [nth_getElem hi]; exact e⟩
theorem QOk.to_ms {its ms : Its} (h : QOk its ms) {i : Nat} (hi : i < its.length) : ∃ x ∈ ms, entN x = entN (nth its i) := by
  have : entN (nth its i) ∈ ms.map entN := h.names.mem_iff.2 (List.mem_map_of_mem (nth_mem hi))
  obtain ⟨x, hx, e⟩ := List.mem_map.1 this
  exact ⟨x, hx, e⟩
theorem QOk.one {its ms : Its} (h : QOk its ms) {i j : Nat} (hi : i < its.length) (hj : j < its.length) (e : nm (nth its i).2 = nm (nth its j).2) : i = j := by
  have hnd := h.nd
  rw [List.nodup_iff_pairwise_ne, List.pairwise_iff_getElem] at hnd
  rw [nth_getElem hi, nth_getElem hj] at e
  rcases Nat.lt_trichotomy i j with hlt | rfl | hlt
  · exact absurd (by rw [List.getElem_map, List.getElem_map]; exact e) (hnd i j (by simpa using hi) (by simpa using hj) hlt)
  · rfl
  · exact absurd (by rw [List.getElem_map, List.getElem_map]; exact e.symm) (hnd j i (by simpa using hj) (by simpa using hi) hlt)
theorem QOk.look {its ms : Its} (h : QOk its ms) (n : Int × List UInt8) :
    (ms.findIdx? (isN n) = none ∧ ∀ x ∈ its, nm x.2 ≠ n) ∨ ∃ i j, i < its.length ∧ ms.findIdx? (isN n) = some j ∧ j < ms.length ∧ nm (nth its i).2 = n ∧ entN (nth ms j) = entN (nth its i) := by
  rcases hf : ms.findIdx? (isN n) with _ | j
  · left
    refine ⟨rfl, fun x hx e => ?_⟩
    obtain ⟨i, hi, rfl⟩ := List.mem_iff_getElem.1 hx
    obtain ⟨y, hy, e2⟩ := h.to_ms hi
    have := List.findIdx?_eq_none_iff.1 hf y hy
    rw [nth_getElem hi] at e2
    have e3 : nm y.2 = nm its[i].2 := congrArg (·.2) e2
    rw [isN_iff.2 (e3.trans e)] at this; cases this
  · right
    obtain ⟨hj, hp, _⟩ := List.findIdx?_eq_some_iff_getElem.1 hf
    obtain ⟨i, hi, e⟩ := h.of_ms (List.getElem_mem hj)
    refine ⟨i, j, hi, rfl, hj, ?_, by rw [nth_getElem hj]; exact e.symm⟩
    have : nm ms[j].2 = n := isN_iff.1 hp
    rw [← this]; exact congrArg (·.2) e

theorem find_prog (q s mid : Nat) (ms its : Its) (t : Int) (k : List UInt8) : CallsR Tryz.prog nqueue_Queue_find [.ptr q 0, .int .i64 t, .str k] [QO q s its.length mid, (mid, .map (ms.map entE))] fun v => v = match ms.findIdx? (isN (t, k)) with | none => .nilp | some j => .ptr (nth ms j).1 0 := by
  refine squeue_Queue_find fun H hh => ?_
  dsimp only [cqueue_Queue_find]
  refine walk (k := ?_)
  repeat' first | refine And.intro ?_ ?_ | intro
  all_goals refine leaf ?_
  rcases hf : ms.findIdx? (isN (t, k)) with _ | j
  · refine wps_lookN hh rfl (.there .here) (by have := find_ms (t, k) ms; rw [hf] at this; exact this) ?_
    refine walk (k := ?_)
    repeat' first | refine And.intro ?_ ?_ | intro
    all_goals refine leaf ?_
    exact doneR rfl
  · have hj : j < ms.length := (List.findIdx?_eq_some_iff_getElem.1 hf).1
    refine wps_lookF hh rfl (.there .here) (by have := find_ms (t, k) ms; rw [hf] at this; exact this) (e := entE (nth ms j)) (by rw [List.getElem?_map, getD_some hj]; rfl) ?_
    refine walk (k := ?_)
    repeat' first | refine And.intro ?_ ?_ | intro
    all_goals refine leaf ?_
    exact doneR rfl

theorem Heapy.congr {its its' : Its} {n : Nat} (h : ∀ k, k < n → (nth its' k).2 = (nth its k).2) (hy : Heapy its n) : Heapy its' n := fun k h0 h1 => by
  have : par k < k := by unfold par; omega
  unfold Lt
  rw [h k h1, h (par k) (by omega)]
  exact hy k h0 h1
theorem Heapy.turn {its : Its} {i : Nat} (x : It) (hi : i < its.length) (h : Heapy its its.length) : Near (its.set i x) its.length i := by
  have go : ∀ k, k < its.length → k ≠ i → nth (its.set i x) k = nth its k := fun k h1 h2 => by rw [nth_set _ h1, if_neg (Ne.symm h2)]
  refine ⟨fun k h0 h1 h2 h3 => ?_, fun k h0 h1 h2 h3 => ?_⟩
  · unfold Lt
    have : par k < k := by unfold par; omega
    rw [go k h1 h2, go (par k) (by omega) h3]
    exact h k h0 h1
  · unfold Lt
    have : par k < k := by unfold par; omega
    have : par i < i := by unfold par; omega
    rw [go k h1 (by omega), go (par i) (by omega) (by omega)]
    have a1 := h k h0 h1
    rw [h2] at a1
    exact le_trans' (h i h3 hi) a1

def Due.zero : Due := ⟨0, [], 0⟩
theorem filt_one {D E : List Due} {x : Due} (h : D.Perm (x :: E)) (nd : (D.map nm).Nodup) : (D.filter fun e => decide (nm e ≠ nm x)).Perm E := by
  have h1 := h.filter fun e => decide (nm e ≠ nm x)
  have nd2 : ((x :: E).map nm).Nodup := ((h.map nm).nodup_iff).1 nd
  rw [List.filter_cons_of_neg (by simp)] at h1
  have : E.filter (fun e => decide (nm e ≠ nm x)) = E := List.filter_eq_self.2 fun e he => by
    have := (List.nodup_cons.1 nd2).1
    exact decide_eq_true fun k => this (by rw [← k]; exact List.mem_map_of_mem he)
  rwa [this] at h1
theorem filt_none {D : List Due} {n : Int × List UInt8} (h : ∀ e ∈ D, nm e ≠ n) : D.filter (fun e => decide (nm e ≠ n)) = D :=
  List.filter_eq_self.2 fun e he => decide_eq_true (h e he)
abbrev dues (its : Its) : List Due := its.map (·.2)
theorem QOk.ndD {its ms : Its} (h : QOk its ms) : ((dues its).map nm).Nodup := by rw [List.map_map]; exact h.nd
theorem itO_set {its : Its} {i : Nat} (x : It) (hi : i < its.length) : (itO its).set i (obI x i) = itO (its.set i x) := by
  apply List.ext_getElem?; intro k
  by_cases hk : k < its.length
  · by_cases h : k = i
    · subst h
      rw [List.getElem?_set_self (by rw [itO_length]; exact hk), itO_get (by simpa using hk), nth_set _ hk, if_pos rfl]
    · rw [List.getElem?_set_ne (Ne.symm h), itO_get hk, itO_get (by simpa using hk), nth_set _ hk, if_neg (Ne.symm h)]
  · rw [List.getElem?_eq_none (by simp [itO_length]; omega), List.getElem?_eq_none (by simp [itO_length]; omega)]
theorem set_id {its : Its} {i : Nat} {x : It} (hi : i < its.length) (hx : x.1 = (nth its i).1) : (its.set i x).flatMap itC = its.flatMap itC := by
  have : (its.set i x).map (·.1) = its.map (·.1) := by
    rw [List.map_set]
    apply List.ext_getElem?; intro k
    by_cases h : k = i
    · subst h; rw [List.getElem?_set_self (by simpa using hi), List.getElem?_map, getD_some hi, hx]; rfl
    · rw [List.getElem?_set_ne (Ne.symm h)]
  have e : ∀ l : Its, l.flatMap itC = (l.map (·.1)).flatMap fun id => [.ptr id 0] := fun l => by rw [List.flatMap_map]; rfl
  rw [e, e, this]
theorem set_entN {its : Its} {i : Nat} {x : It} (hi : i < its.length) (hx : entN x = entN (nth its i)) : (its.set i x).map entN = its.map entN := by
  rw [List.map_set]
  apply List.ext_getElem?; intro k
  by_cases h : k = i
  · subst h; rw [List.getElem?_set_self (by simpa using hi), List.getElem?_map, getD_some hi, hx]; rfl
  · rw [List.getElem?_set_ne (Ne.symm h)]
theorem nms_of {a b : Its} (h : (a.map entN).Perm (b.map entN)) : (a.map fun x => nm x.2).Perm (b.map fun x => nm x.2) := by
  have := h.map (·.2)
  rwa [List.map_map, List.map_map] at this

theorem put_prog (q s mid : Nat) (ms its : Its) (d : Due) (hl : its.length ≤ 500) (h : QOk its ms) : CallsL Tryz.prog nqueue_Queue_Put [.ptr q 0, .agg d.enc] (QL q s mid ms its) fun v L' => ∃ s' ms' its',
    QOk its' ms' ∧ (dues its').Perm (d :: (dues its).filter fun e => decide (nm e ≠ nm d)) ∧ v = .bool (decide (∀ e ∈ dues its, nm e ≠ nm d)) ∧ L' = QL q s' mid ms' its' := by
  refine squeue_Queue_Put fun H hh => ?_
  dsimp only [cqueue_Queue_Put]
  refine walk (k := ?_)
  repeat' first | refine And.intro ?_ ?_ | intro
  all_goals refine leaf ?_
  have hf := find_prog q s mid ms its d.tenant d.key
  rcases h.look (nm d) with ⟨h1, h2⟩ | ⟨i, j, hi, h1, hj, h3, h4⟩
  · rw [show ms.findIdx? (isN (d.tenant, d.key)) = none from h1] at hf
    refine callE (hf) ?_
    refine walk (k := ?_)
    repeat' first | refine And.intro ?_ ?_ | intro
    all_goals refine leaf ?_
    rename_i did _ _ id _ hh
    refine wps_put hh (r := none) (es := ms.map entE) (es' := (ms ++ [(id, d)]).map entE) rfl rfl (by have := find_ms (nm d) ms; rw [h1] at this; exact this) (by simp [putE]; rfl) (.there (.there (.there (.there .here1)))) fun _ hh => ?_
    refine walk1 (k := ?_)
    repeat' first | refine And.intro ?_ ?_ | intro
    all_goals refine leaf ?_
    refine callL (heap_push_prog q s id mid its d 0 (by omega) h.heap) ?_
    rintro _ _ H' ⟨rfl, s', its', hp, hy, rfl⟩ hh
    refine walk1 (k := ?_)
    repeat' first | refine And.intro ?_ ?_ | intro
    all_goals refine leaf ?_
    refine done ⟨s', ms ++ [(id, d)], its', ⟨hy, ?_, ?_⟩, ?_, ?_, rfl⟩
    · have hnd := (hp.map fun x => nm x.2).nodup_iff.2
      refine hnd (List.nodup_cons.2 ⟨fun hm => ?_, h.nd⟩)
      obtain ⟨x, hx, e⟩ := List.mem_map.1 hm
      exact h2 x hx e
    · rw [List.map_append]
      refine (List.perm_append_singleton _ _).trans ?_
      exact (h.names.cons _).trans ((hp.map entN).symm)
    · rw [filt_none (fun e he => by obtain ⟨x, hx, rfl⟩ := List.mem_map.1 he; exact h2 x hx)]
      exact hp.map (·.2)
    · congr 1
      exact (decide_eq_true (fun e he => by obtain ⟨x, hx, rfl⟩ := List.mem_map.1 he; exact h2 x hx)).symm
  · rw [show ms.findIdx? (isN (d.tenant, d.key)) = some j from h1] at hf
    have hid : (nth ms j).1 = (nth its i).1 := congrArg (·.1) h4
    simp only [hid] at hf
    refine callE (hf) ?_
    refine walk (k := ?_)
    repeat' first | refine And.intro ?_ ?_ | intro
    all_goals refine leaf ?_
    rename_i did _ hh
    have hx : entN ((nth its i).1, d) = entN (nth its i) := by simp only [entN, h3]
    refine wps_store (cs' := [.int .i64 d.tenant, .str d.key, .int .i64 d.at_, .int .i64 i]) hh rfl rfl rfl rfl rfl (.there (.there (.there (.there (upd_set' (itO_get hi)))))) (Nat.le_of_ble_eq_true rfl) rfl fun _ hh => ?_
    change Has _ (_ :: QO q s its.length mid :: rowO s its :: _ :: (itO its).set i (obI ((nth its i).1, d) i)) at hh
    rw [itO_set _ hi, show QO q s its.length mid = QO q s (its.set i ((nth its i).1, d)).length mid by rw [List.length_set], show rowO s its = rowO s (its.set i ((nth its i).1, d)) by rw [rowO, rowO, set_id (x := ((nth its i).1, d)) hi rfl]] at hh
    have hls : (its.set i ((nth its i).1, d)).length = its.length := List.length_set
    have hm : obI ((nth its i).1, d) i ∈ itO (its.set i ((nth its i).1, d)) := by
      have := itO_mem (its := its.set i ((nth its i).1, d)) (i := i) (by omega)
      rwa [nth_set _ hi, if_pos rfl] at this
    refine walk1 (k := ?_)
    repeat' first | refine And.intro ?_ ?_ | intro
    all_goals refine leaf ?_
    refine wps_ld hh rfl (.there (.there (.there (.there (at_mem' hm))))) (v := .int .i64 i) rfl ?_
    refine walk1 (k := ?_)
    repeat' first | refine And.intro ?_ ?_ | intro
    all_goals refine leaf ?_
    refine callL (fix_prog q s mid (its.set i ((nth its i).1, d)) i (by omega) (by omega) (by rw [hls]; exact h.heap.turn _ hi)) ?_
    rintro _ _ H' ⟨rfl, its', hp, hy, rfl⟩ hh
    refine walk1 (k := ?_)
    repeat' first | refine And.intro ?_ ?_ | intro
    all_goals refine leaf ?_
    have hpe : (its'.map entN).Perm (its.map entN) := by have := hp.map entN; rwa [set_entN hi hx] at this
    have hd : (dues its).Perm ((nth its i).2 :: dues (its.eraseIdx i)) := by
      exact (erase_perm hi).map (·.2)
    have hs : (dues (its.set i ((nth its i).1, d))).Perm (d :: dues (its.eraseIdx i)) := (set_perm _ hi).map (·.2)
    refine done ⟨s, ms, its', ⟨hy, (nms_of hpe).nodup_iff.2 h.nd, h.names.trans hpe.symm⟩, ?_, ?_, rfl⟩
    · refine (hp.map (·.2)).trans (hs.trans (.cons _ ?_))
      have := filt_one hd h.ndD
      rw [h3] at this
      exact this.symm
    · congr 1
      refine (decide_eq_false fun hall => ?_).symm
      exact hall _ (List.mem_map_of_mem (nth_mem hi)) h3

theorem out_prog (q s mid : Nat) (ms its : Its) (i : Nat) (hi : i < its.length) (hl : its.length ≤ 500) (h : QOk its ms) : CallsL Tryz.prog nqueue_Queue_out [.ptr q 0, .int .i64 i] (QL q s mid ms its) fun v L' => ∃ ms' its',
    QOk its' ms' ∧ (dues its).Perm ((nth its i).2 :: dues its') ∧ v = .agg (nth its i).2.enc ∧ L' = QL q s mid ms' its' := by
  refine squeue_Queue_out fun H hh => ?_
  dsimp only [cqueue_Queue_out]
  refine walk (k := ?_)
  repeat' first | refine And.intro ?_ ?_ | intro
  all_goals refine leaf ?_
  refine callL (remove_prog q s mid its i (by omega) hi h.heap) ?_
  rintro _ _ H' ⟨rfl, its', hp, hy, rfl⟩ hh
  refine walk1 (k := ?_)
  repeat' first | refine And.intro ?_ ?_ | intro
  all_goals refine leaf ?_
  obtain ⟨x, hx, he⟩ := h.to_ms hi
  rcases h.look (nm (nth its i).2) with ⟨_, h2⟩ | ⟨i', j, hi', h1, hj, h3, h4⟩
  · exact absurd rfl (h2 _ (nth_mem hi))
  have hii := h.one hi' hi h3
  subst hii
  refine wps_del hh (r := some j) (es := ms.map entE) (es' := (ms.eraseIdx j).map entE) rfl (by have := find_ms (nm (nth its i').2) ms; rw [h1] at this; exact this) (by simp only [delE, map_eraseIdx']) (.there (.there (.there (.skip (.there .here1))))) fun _ hh => ?_
  refine walk1 (k := ?_)
  repeat' first | refine And.intro ?_ ?_ | intro
  all_goals refine leaf ?_
  have hpd : (dues its).Perm ((nth its i').2 :: dues its') := (hp.symm).map (·.2)
  have hpe : (its.map entN).Perm (entN (nth its i') :: its'.map entN) := (hp.symm).map entN
  refine done ⟨ms.eraseIdx j, its', ⟨hy, ?_, ?_⟩, hpd, rfl, rfl⟩
  · have := (hp.map fun x => nm x.2).nodup_iff.2 h.nd
    exact (List.nodup_cons.1 this).2
  · have e1 : (ms.map entN).Perm (entN (nth its i') :: (ms.eraseIdx j).map entN) := by
      have := (erase_perm hj).map entN
      rwa [List.map_cons, h4] at this
    exact List.Perm.cons_inv (e1.symm.trans (h.names.trans hpe))

theorem drop_prog (q s mid : Nat) (ms its : Its) (n : Int × List UInt8) (hl : its.length ≤ 500) (h : QOk its ms) : CallsL Tryz.prog nqueue_Queue_Drop [.ptr q 0, .int .i64 n.1, .str n.2] (QL q s mid ms its) fun v L' => ∃ ms' its',
    QOk its' ms' ∧ (dues its').Perm ((dues its).filter fun e => decide (nm e ≠ n)) ∧ v = .bool (decide (∃ e ∈ dues its, nm e = n)) ∧ L' = QL q s mid ms' its' := by
  refine squeue_Queue_Drop fun H hh => ?_
  dsimp only [cqueue_Queue_Drop]
  refine walk (k := ?_)
  repeat' first | refine And.intro ?_ ?_ | intro
  all_goals refine leaf ?_
  have hf := find_prog q s mid ms its n.1 n.2
  rcases h.look n with ⟨h1, h2⟩ | ⟨i, j, hi, h1, hj, h3, h4⟩
  · rw [show ms.findIdx? (isN (n.1, n.2)) = none from h1] at hf
    refine callE (hf) ?_
    refine walk (k := ?_)
    repeat' first | refine And.intro ?_ ?_ | intro
    all_goals refine leaf ?_
    have h2' : ∀ e ∈ dues its, nm e ≠ n := fun e he => by obtain ⟨x, hx, rfl⟩ := List.mem_map.1 he; exact h2 x hx
    refine done ⟨ms, its, h, ?_, ?_, rfl⟩
    · rw [filt_none h2']
    · congr 1
      exact (decide_eq_false fun ⟨e, he, k⟩ => h2' e he k).symm
  · rw [show ms.findIdx? (isN (n.1, n.2)) = some j from h1] at hf
    have hid : (nth ms j).1 = (nth its i).1 := congrArg (·.1) h4
    simp only [hid] at hf
    refine callE (hf) ?_
    refine walk (k := ?_)
    repeat' first | refine And.intro ?_ ?_ | intro
    all_goals refine leaf ?_
    refine wps_ld hh rfl (.there (.there (.there (at_mem' (itO_mem hi))))) (v := .int .i64 i) rfl ?_
    refine walk1 (k := ?_)
    repeat' first | refine And.intro ?_ ?_ | intro
    all_goals refine leaf ?_
    refine callL (out_prog q s mid ms its i hi hl h) ?_
    rintro _ _ H' ⟨ms', its', hq, hp, rfl, rfl⟩ hh
    refine walk (k := ?_)
    repeat' first | refine And.intro ?_ ?_ | intro
    all_goals refine leaf ?_
    refine done ⟨ms', its', hq, ?_, ?_, rfl⟩
    · have := filt_one hp h.ndD
      rw [h3] at this
      exact this.symm
    · congr 1
      exact (decide_eq_true ⟨_, List.mem_map_of_mem (nth_mem hi), h3⟩).symm

theorem new_prog : CallsL Tryz.prog nqueue_New [] [] fun v L' => ∃ q mid, v = .ptr q 0 ∧ L' = QL q 0 mid [] [] := by
  refine squeue_New fun H hh => ?_
  dsimp only [cqueue_New]
  refine walk (k := ?_)
  repeat' first | refine And.intro ?_ ?_ | intro
  all_goals refine leaf ?_
  rename_i mid _ _ q _ hh
  refine CEnds.obj hh (id := q) (cs' := [.slice 0 0 0 1, .map mid]) .here1 (Wks.wkp (.cons (Wk.nils _ _) (.cons (Wk.refl _) .nil))) (by simp) fun H' hh => ?_
  exact .mk ((hh.ghost true).perm (List.Perm.swap _ _ _)) ⟨q, mid, rfl, rfl⟩
end Go.Proofs.YtjgcgepfidcihaaGreatDoor.Que
