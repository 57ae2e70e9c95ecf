/-
  A program logic over the model's calls, part 23: rows: slices whose elements have equally many cells.
-/
import Derived.Test.YtebhddpildfgcaaCmUse2
namespace Go.CM

section
variable {α : Type} {enc : α → List V} {sz : Nat}
theorem rows_length (hs : ∀ a, (enc a).length = sz) : ∀ (l : List α), (l.flatMap enc).length = l.length * sz
  | [] => by simp
  | a :: l => by simp [rows_length hs l, hs, Nat.succ_mul, Nat.add_comm]
theorem rows_split (hs : ∀ a, (enc a).length = sz) : ∀ {l : List α} {i : Nat} {a : α}, l[i]? = some a → ∃ A B, l.flatMap enc = A ++ enc a ++ B ∧ A.length = i * sz ∧ ∀ x, (l.set i x).flatMap enc = A ++ enc x ++ B
  | [], i, a, h => by simp at h
  | b :: l, 0, a, h => by
    simp at h; subst h
    exact ⟨[], l.flatMap enc, by simp, by simp, by simp⟩
  | b :: l, i + 1, a, h => by
    obtain ⟨A, B, h1, h2, h3⟩ := rows_split hs (l := l) (i := i) (a := a) (by simpa using h)
    refine ⟨enc b ++ A, B, by simp [h1], by simp [h2, hs, Nat.succ_mul, Nat.add_comm], fun x => ?_⟩
    have := h3 x
    simp only [List.set_cons_succ, List.flatMap_cons, this, List.append_assoc]
/-- The element at a place. -/
@[irreducible] def nth {α : Type} [Inhabited α] (l : List α) (i : Nat) : α := l.getD i default
theorem nth_eq {α : Type} [Inhabited α] (l : List α) (i : Nat) : nth l i = l.getD i default := by unfold nth; rfl
theorem nth_nil {α : Type} [Inhabited α] (i : Nat) : nth ([] : List α) i = default := by simp [nth_eq]
theorem nth_zero {α : Type} [Inhabited α] (a : α) (l : List α) : nth (a :: l) 0 = a := by simp [nth_eq]
theorem nth_succ {α : Type} [Inhabited α] (a : α) (l : List α) (i : Nat) : nth (a :: l) (i + 1) = nth l i := by simp [nth_eq]
theorem nth_out {α : Type} [Inhabited α] {l : List α} {i : Nat} (h : l.length ≤ i) : nth l i = default := by simp [nth_eq, List.getD_eq_getElem?_getD, h]
theorem nth_getElem {α : Type} [Inhabited α] {l : List α} {i : Nat} (h : i < l.length) : nth l i = l[i] := by simp [nth_eq, List.getD_eq_getElem?_getD, h]
theorem nth_map {α β : Type} [Inhabited α] [Inhabited β] (f : α → β) {l : List α} {i : Nat} (h : i < l.length) : nth (l.map f) i = f (nth l i) := by
  rw [nth_getElem h, nth_getElem (by simpa using h), List.getElem_map]
theorem nth_set {α : Type} [Inhabited α] {l : List α} {i j : Nat} (x : α) (h : j < l.length) : nth (l.set i x) j = if i = j then x else nth l j := by
  rw [nth_getElem h, nth_getElem (by simpa using h), List.getElem_set]
theorem nth_mem {α : Type} [Inhabited α] {l : List α} {i : Nat} (h : i < l.length) : nth l i ∈ l := by rw [nth_getElem h]; exact List.getElem_mem h
theorem nth_of {α : Type} [Inhabited α] {l : List α} {i : Nat} {a : α} (h : l[i]? = some a) : nth l i = a := by simp [nth_eq, List.getD_eq_getElem?_getD, h]
theorem getD_some [Inhabited α] {l : List α} {i : Nat} (h : i < l.length) : l[i]? = some (nth l i) := by
  simp [nth_eq, List.getD_eq_getElem?_getD, h]
theorem drop_getD [Inhabited α] {l : List α} {i : Nat} (h : i < l.length) : l.drop i = nth l i :: l.drop (i + 1) := by
  rw [List.drop_eq_getElem_cons h, nth_eq, List.getD_eq_getElem?_getD, List.getElem?_eq_getElem h]; rfl
theorem take_getD [Inhabited α] {l : List α} {i : Nat} (h : i < l.length) : l.take (i + 1) = l.take i ++ [nth l i] := by
  rw [List.take_add_one, getD_some h]; rfl
theorem rows_load (hs : ∀ a, (enc a).length = sz) {l : List α} {i : Nat} {a : α} (h : l[i]? = some a) {off : Nat} {v : V} (hv : (enc a)[off]? = some v) : (l.flatMap enc)[i * sz + off]? = some v := by
  obtain ⟨A, B, h1, h2, _⟩ := rows_split hs h
  have hlt := (List.getElem?_eq_some_iff.1 hv).1
  rw [h1, ← h2, List.append_assoc, List.getElem?_append_right (by omega), Nat.add_sub_cancel_left, List.getElem?_append_left hlt]
  exact hv
theorem rows_loadn (hs : ∀ a, (enc a).length = sz) {l : List α} {i : Nat} {a : α} (h : l[i]? = some a) {off m : Nat} (hm : off + m ≤ sz) : getCells (l.flatMap enc) (i * sz + off) m = some (((enc a).drop off).take m) := by
  obtain ⟨A, B, h1, h2, _⟩ := rows_split hs h
  have hl : (enc a).length = sz := hs a
  have hb : Nat.ble (i * sz + off + m) (l.flatMap enc).length = true := Nat.ble_eq_true_of_le (by rw [h1]; simp; omega)
  simp only [getCells, hb, cond_true]
  rw [h1, ← h2, List.append_assoc, List.drop_append, List.drop_of_length_le (by omega), Nat.add_sub_cancel_left, List.nil_append, List.drop_append, List.take_append_of_le_length (by simp; omega)]
theorem rows_row (hs : ∀ a, (enc a).length = sz) {l : List α} {i : Nat} {a : α} (h : l[i]? = some a) : getCells (l.flatMap enc) (i * sz) sz = some (enc a) := by
  have := rows_loadn hs h (off := 0) (m := sz) (by omega)
  rw [Nat.add_zero] at this
  rw [this, List.drop_zero, ← hs a, List.take_length]
theorem rows_set (hs : ∀ a, (enc a).length = sz) {l : List α} {i : Nat} (hi : i < l.length) (x : α) : splice (l.flatMap enc) (i * sz) (enc x) = (l.set i x).flatMap enc := by
  obtain ⟨A, B, h1, h2, h3⟩ := rows_split hs (List.getElem?_eq_getElem hi)
  rw [h3, h1, ← h2]
  have hl : (enc x).length = (enc l[i]).length := by rw [hs, hs]
  simp [splice, hl]
theorem rows_setf (hs : ∀ a, (enc a).length = sz) {l : List α} {i : Nat} {a : α} (h : l[i]? = some a) {off : Nat} {vs : List V} {x : α} (hx : splice (enc a) off vs = enc x) (hm : off + vs.length ≤ sz) :
    splice (l.flatMap enc) (i * sz + off) vs = (l.set i x).flatMap enc := by
  obtain ⟨A, B, h1, h2, h3⟩ := rows_split hs h
  have hl := hs a
  rw [h3, h1, ← h2, ← hx]
  simp only [splice, List.append_assoc]
  rw [List.take_append, List.take_of_length_le (by omega), Nat.add_sub_cancel_left, List.take_append_of_le_length (by omega)]
  rw [Nat.add_assoc, List.drop_append, List.drop_of_length_le (l := A) (by omega), Nat.add_sub_cancel_left, List.nil_append, List.drop_append_of_le_length (by omega)]
  simp
theorem rows_drop (hs : ∀ a, (enc a).length = sz) : ∀ (l : List α) (i : Nat), (l.flatMap enc).drop (i * sz) = (l.drop i).flatMap enc
  | [], i => by simp
  | a :: l, 0 => by simp
  | a :: l, i + 1 => by
    have : (i + 1) * sz = (enc a).length + i * sz := by rw [hs, Nat.succ_mul, Nat.add_comm]
    rw [List.flatMap_cons, this, List.drop_append, List.drop_of_length_le (by omega), Nat.add_sub_cancel_left, List.nil_append, rows_drop hs l i]; rfl
theorem rows_take (hs : ∀ a, (enc a).length = sz) : ∀ (l : List α) (i : Nat), (l.flatMap enc).take (i * sz) = (l.take i).flatMap enc
  | [], i => by simp
  | a :: l, 0 => by simp
  | a :: l, i + 1 => by
    have : (i + 1) * sz = (enc a).length + i * sz := by rw [hs, Nat.succ_mul, Nat.add_comm]
    rw [List.flatMap_cons, this, List.take_append, List.take_of_length_le (by omega), Nat.add_sub_cancel_left, rows_take hs l i]; rfl
/-- A part of a row. -/
theorem rows_part (hs : ∀ a, (enc a).length = sz) (l : List α) {i n : Nat} (h : i + n ≤ l.length) : getCells (l.flatMap enc) (i * sz) (n * sz) = some (((l.drop i).take n).flatMap enc) := by
  have hb : Nat.ble (i * sz + n * sz) (l.flatMap enc).length = true := Nat.ble_eq_true_of_le (by rw [rows_length hs, ← Nat.add_mul]; exact Nat.mul_le_mul_right _ h)
  simp only [getCells, hb, cond_true]
  rw [rows_drop hs, rows_take hs]
theorem rows_all (hs : ∀ a, (enc a).length = sz) (l : List α) : getCells (l.flatMap enc) 0 (l.length * sz) = some (l.flatMap enc) := getCells_all (rows_length hs l)
end

/-- Objects of a list of things: one is there, and is turned. -/
theorem at_mem {x : Ob} {A R : List Ob} (h : x ∈ A) : At x (A ++ R) := by
  obtain ⟨B, C, rfl⟩ := List.append_of_mem h
  rw [List.append_assoc]
  exact .skip .here
theorem at_mem' {x : Ob} {A : List Ob} (h : x ∈ A) : At x A := by
  have := at_mem (R := []) h
  rwa [List.append_nil] at this
theorem upd_set {x : Ob} {N : Ob} : ∀ {A R : List Ob} {k : Nat}, A[k]? = some x → Upd x [N] (A ++ R) (A.set k N ++ R)
  | [], _, _, h => by simp at h
  | a :: A, R, 0, h => by simp at h; subst h; exact .here1
  | a :: A, R, k + 1, h => .there (upd_set (by simpa using h))
theorem upd_set' {x : Ob} {N : Ob} {A : List Ob} {k : Nat} (h : A[k]? = some x) : Upd x [N] A (A.set k N) := by
  have := upd_set (N := N) (R := []) h
  rwa [List.append_nil, List.append_nil] at this
/-- Two places change over. -/
def swapL {α : Type} [Inhabited α] (l : List α) (i j : Nat) : List α := (l.set i (nth l j)).set j (nth l i)
theorem swapL_length {α : Type} [Inhabited α] (l : List α) (i j : Nat) : (swapL l i j).length = l.length := by simp [swapL]
theorem swapL_perm {α : Type} [Inhabited α] {l : List α} {i j : Nat} (hi : i < l.length) (hj : j < l.length) : (swapL l i j).Perm l := by
  have h := Array.swap_perm (xs := l.toArray) (i := i) (j := j) (by simpa using hi) (by simpa using hj)
  have h2 : (l.toArray.swap i j (by simpa using hi) (by simpa using hj)).toList = swapL l i j := by
    rw [swapL, nth_getElem hi, nth_getElem hj]
    simp [Array.swap]
  rw [← h2]
  exact Array.perm_iff_toList_perm.1 h
theorem nth_swapL {α : Type} [Inhabited α] {l : List α} {i j k : Nat} (hi : i < l.length) (hj : j < l.length) (hk : k < l.length) : nth (swapL l i j) k = if k = i then nth l j else if k = j then nth l i else nth l k := by
  rw [swapL, nth_set _ (by simpa using hk), nth_set _ hk]
  by_cases h1 : k = j
  · subst h1
    by_cases h2 : k = i
    · subst h2; simp
    · simp [h2]
  · by_cases h2 : k = i
    · subst h2; simp [Ne.symm h1]
    · simp [h1, h2, Ne.symm h1, Ne.symm h2]

theorem map_eraseIdx' {α β : Type} (f : α → β) : ∀ (l : List α) (i : Nat), (l.map f).eraseIdx i = (l.eraseIdx i).map f
  | [], _ => rfl
  | _ :: _, 0 => rfl
  | a :: l, i + 1 => by simp [map_eraseIdx' f l i]
theorem erase_perm {α : Type} [Inhabited α] : ∀ {l : List α} {i : Nat}, i < l.length → l.Perm (nth l i :: l.eraseIdx i)
  | [], _, h => by simp at h
  | a :: l, 0, _ => by rw [nth_zero]; exact .refl _
  | a :: l, i + 1, h => by
    rw [nth_succ]
    exact ((erase_perm (l := l) (i := i) (by simpa using h)).cons a).trans (List.Perm.swap _ _ _)
theorem set_perm {α : Type} (x : α) : ∀ {l : List α} {i : Nat}, i < l.length → (l.set i x).Perm (x :: l.eraseIdx i)
  | [], _, h => by simp at h
  | a :: l, 0, _ => .refl _
  | a :: l, i + 1, h => ((set_perm x (l := l) (i := i) (by simpa using h)).cons a).trans (List.Perm.swap _ _ _)

/-- The rows of an input, as a list of things. -/
theorem rowsOf {α : Type} (enc : α → List V) : ∀ {rs : List (List V)}, (∀ r ∈ rs, ∃ x, r = enc x) → ∃ l : List α, rs = l.map enc
  | [], _ => ⟨[], rfl⟩
  | r :: rs, h => by
    obtain ⟨x, rfl⟩ := h r (by simp)
    obtain ⟨l, rfl⟩ := rowsOf enc (rs := rs) fun r hr => h r (by simp [hr])
    exact ⟨x :: l, rfl⟩
theorem givenRows {H : Heap} {i sz : Nat} {α : Type} {enc : α → List V} {l : List α} {v : V} (h : RowsAt H i sz (l.map enc) v) : ∃ t, v = .slice t 0 (l.map enc).length sz ∧ Has H [(t, .cells false (l.flatMap enc))] := by
  obtain ⟨s, h1, h2⟩ := h
  refine ⟨s, h1, ?_⟩
  rcases h2 with ⟨rfl, h2⟩ | ⟨rfl, h0, h2⟩
  · have : l = [] := by simpa using h2
    subst this
    exact (Has.nil H).ghost false
  · exact (Has.nil H).cons h0 (by rw [h2]; rfl) (by simp [ids])

section
variable {P : Program} {env : Env} {H : Heap} {Q : Ex → Env → Heap → Prop} {L : List Ob} {K : Env → Heap → Prop} {d : Option Nat} {x : Kx} {is : List I}
variable {α : Type} {enc : α → List V} {sz : Nat}

theorem wps_ian {esz : Nat} {y i : X} {id len n : Nat} {ki : IntKind} (hx : y.ev env = .slice id 0 len esz) (hi : i.ev env = .int ki (n : Int)) (hb : n < len) (k : wpOps P is (env.put d (.ptr id (n * esz))) H K) :
    wpOps P (⟨d, .rd (.iaddrS esz y i), none, x⟩ :: is) env H K :=
  wps_ia hx hi (by omega) (by simpa using k)
/-- A cell, some cells, and all of an element. -/
theorem wps_lr [Inhabited α] (hh : Has H L) {a : X} {id n off : Nat} {b : Bool} {l : List α} {v : V} (ha : a.ev env = .ptr id (n * sz + off)) (hi : At (id, .cells b (l.flatMap enc)) L) (hs : ∀ a, (enc a).length = sz) (hb : n < l.length) (hv : (enc (nth l n))[off]? = some v) (k : wpOps P is (env.put d v) H K) :
    wpOps P (⟨d, .rd (.load1 a), none, x⟩ :: is) env H K :=
  wps_ld hh ha hi (rows_load hs (getD_some hb) hv) k
theorem wps_lr0 [Inhabited α] (hh : Has H L) {a : X} {id n : Nat} {b : Bool} {l : List α} {v : V} (ha : a.ev env = .ptr id (n * sz)) (hi : At (id, .cells b (l.flatMap enc)) L) (hs : ∀ a, (enc a).length = sz) (hb : n < l.length) (hv : (enc (nth l n))[0]? = some v) (k : wpOps P is (env.put d v) H K) :
    wpOps P (⟨d, .rd (.load1 a), none, x⟩ :: is) env H K :=
  wps_ld hh (off := n * sz + 0) ha hi (rows_load hs (getD_some hb) hv) k
theorem wps_lrn [Inhabited α] (hh : Has H L) {a : X} {id n off m : Nat} {b : Bool} {l : List α} {vs : List V} (ha : a.ev env = .ptr id (n * sz + off)) (hi : At (id, .cells b (l.flatMap enc)) L) (hs : ∀ a, (enc a).length = sz) (hb : n < l.length) (hm : Nat.ble (off + (m + 1)) sz = true) (hv : ((enc (nth l n)).drop off).take (m + 1) = vs) (k : wpOps P is (env.put d (.agg vs)) H K) :
    wpOps P (⟨d, .rd (.loadn (m + 1) a), none, x⟩ :: is) env H K :=
  wps_ldn hh ha hi (rows_loadn hs (getD_some hb) (Nat.le_of_ble_eq_true hm)) hv k
theorem wps_lra [Inhabited α] (hh : Has H L) {a : X} {id n m : Nat} {b : Bool} {l : List α} (ha : a.ev env = .ptr id (n * (m + 1))) (hi : At (id, .cells b (l.flatMap enc)) L) (hs : ∀ a, (enc a).length = m + 1) (hb : n < l.length) (k : wpOps P is (env.put d (.agg (enc (nth l n)))) H K) :
    wpOps P (⟨d, .rd (.loadn (m + 1) a), none, x⟩ :: is) env H K :=
  wps_ldn hh ha hi (rows_row hs (getD_some hb)) rfl k
/-- An element is another one. -/
theorem wps_sr (hh : Has H L) {a y : X} {id n m : Nat} {l : List α} {u : α} {v : V} {L' : List Ob} (ha : a.ev env = .ptr id (n * (m + 1))) (hy : y.ev env = v) (ht : v.isTup = false) (hc : v.cells = enc u) (hs : ∀ a, (enc a).length = m + 1) (hb : n < l.length)
    (hu : Upd (id, .cells true (l.flatMap enc)) [(id, .cells true ((l.set n u).flatMap enc))] L L') (k : ∀ H', Has H' L' → wpOps P is (env.put d V.undef) H' K) : wpOps P (⟨d, .ef (.store (m + 1) a y), none, .no⟩ :: is) env H K :=
  wps_store hh ha hy ht hc (hs u) hu (by rw [rows_length hs, ← Nat.succ_mul]; exact Nat.mul_le_mul_right _ hb) (rows_set hs hb u) k
/-- A part of an element is another one. -/
theorem wps_srk [Inhabited α] (hh : Has H L) {a y : X} {id n off m : Nat} {l : List α} {u : α} {v : V} {vs : List V} {L' : List Ob} (ha : a.ev env = .ptr id (n * sz + off)) (hy : y.ev env = v) (ht : v.isTup = false) (hc : v.cells = vs) (hn : vs.length = m + 1) (hs : ∀ a, (enc a).length = sz) (hb : n < l.length)
    (hx : splice (enc (nth l n)) off vs = enc u) (hm : Nat.ble (off + (m + 1)) sz = true) (hu : Upd (id, .cells true (l.flatMap enc)) [(id, .cells true ((l.set n u).flatMap enc))] L L') (k : ∀ H', Has H' L' → wpOps P is (env.put d V.undef) H' K) : wpOps P (⟨d, .ef (.store (m + 1) a y), none, .no⟩ :: is) env H K :=
  have hm := Nat.le_of_ble_eq_true hm
  wps_store hh ha hy ht hc hn hu (by
    rw [rows_length hs]
    have : (n + 1) * sz ≤ l.length * sz := Nat.mul_le_mul_right _ hb
    rw [Nat.succ_mul] at this; omega) (rows_setf hs (getD_some hb) hx (by omega)) k
/-- One more at the end. -/
theorem wps_push (hh : Has H L) {ya : Nat} {y a : X} {id by_ m : Nat} {z : List V} {l : List α} {u : α} {v : V} {fa : Kx} {L' : Nat → List Ob} (ha : a.ev (env.put (some ya) (.slice 0 0 0 0)) = .slice id 0 l.length (m + 1)) (hn : ∀ v, a.ev (env.put (some ya) v) = a.ev (env.put (some ya) (.slice 0 0 0 0)))
    (hy : y.ev env = v) (ht : v.isTup = false) (hc : v.cells = enc u) (hs : ∀ a, (enc a).length = m + 1) (hz : z.length = m + 1) (hu : ∀ id', Upd (id, .cells true (l.flatMap enc)) [(id', .cells true ((l ++ [u]).flatMap enc))] L (L' id'))
    (hb : (l.length + 1) * by_ ≤ 140737488355328) (k : ∀ t id' H', Has H' (L' id') → wpOps P is ((env.put (some ya) (.slice t 0 1 (m + 1))).put d (.slice id' 0 (l ++ [u]).length (m + 1))) H' K) :
    wpOps P (⟨some ya, .ef (.lit (m + 1) 1 z [(0, m + 1, y)]), none, fa⟩ :: ⟨d, .ef (.app (m + 1) by_ a (.t ya)), none, .no⟩ :: is) env H K := by
  refine wps_lit1 hh hy ht hc (hs u) hz fun t H1 h1 => ?_
  refine wps_app h1 (cs := l.flatMap enc) (vs := enc u) (m := 1) (len := l.length) (id := id) (L' := fun id' => (t, .cells true (enc u)) :: L' id') ?_ (fun id' => ?_) ?_ (rows_length hs l) hb fun id' H' h' => ?_
  · rw [hn]; exact ha
  · have := hu id'
    rw [List.flatMap_append] at this
    simp only [List.flatMap_cons, List.flatMap_nil, List.append_nil] at this
    exact .there this
  · have e : (X.t ya).ev (env.put (some ya) (.slice t 0 1 (m + 1))) = .slice t 0 1 (m + 1) := by simp [X.ev, Env.put]
    rw [e]
    refine src_slice h1 (b := true) (cs := enc u) (vs := enc u) ?_ ?_
    · exact .here
    · exact getCells_all (by rw [hs u]; omega)
  · have := k t id' H' h'.tail
    rwa [List.length_append] at this

/-- A row behind a row. -/
theorem wps_approw (hh : Has H L) (us : List α) {y a : X} {id t by_ m : Nat} {b : Bool} {l : List α} {L' : Nat → List Ob} (ha : a.ev env = .slice id 0 l.length (m + 1)) (hy : y.ev env = .slice t 0 us.length (m + 1)) (hj : At (t, .cells b (us.flatMap enc)) L) (hs : ∀ a, (enc a).length = m + 1)
    (hu : ∀ id', Upd (id, .cells true (l.flatMap enc)) [(id', .cells true ((l ++ us).flatMap enc))] L (L' id')) (hb : (l.length + us.length) * by_ ≤ 140737488355328) (k : ∀ id' H', Has H' (L' id') → wpOps P is (env.put d (.slice id' 0 (l ++ us).length (m + 1))) H' K) :
    wpOps P (⟨d, .ef (.app (m + 1) by_ a y), none, .no⟩ :: is) env H K := by
  refine wps_app hh (cs := l.flatMap enc) (vs := us.flatMap enc) (m := us.length) (len := l.length) (L' := L') ha (fun id' => ?_) ?_ (rows_length hs l) hb fun id' H' h' => ?_
  · have := hu id'
    rwa [List.flatMap_append] at this
  · rw [hy]; exact src_slice hh hj (rows_all hs us)
  · have := k id' H' h'
    rwa [List.length_append] at this

/-- A part of a row behind a row. -/
theorem wps_apppart (hh : Has H L) (us : List α) {y a : X} {id t by_ m i n : Nat} {b : Bool} {l : List α} {L' : Nat → List Ob} (ha : a.ev env = .slice id 0 l.length (m + 1)) (hy : y.ev env = .slice t (0 + i * (m + 1)) n (m + 1)) (hj : At (t, .cells b (us.flatMap enc)) L) (hs : ∀ a, (enc a).length = m + 1) (hi : i + n ≤ us.length)
    (hu : ∀ id', Upd (id, .cells true (l.flatMap enc)) [(id', .cells true ((l ++ (us.drop i).take n).flatMap enc))] L (L' id')) (hb : (l.length + n) * by_ ≤ 140737488355328) (k : ∀ id' H', Has H' (L' id') → wpOps P is (env.put d (.slice id' 0 (l ++ (us.drop i).take n).length (m + 1))) H' K) :
    wpOps P (⟨d, .ef (.app (m + 1) by_ a y), none, .no⟩ :: is) env H K := by
  refine wps_app hh (cs := l.flatMap enc) (vs := ((us.drop i).take n).flatMap enc) (m := n) (len := l.length) (L' := L') ha (fun id' => ?_) ?_ (rows_length hs l) hb fun id' H' h' => ?_
  · have := hu id'
    rwa [List.flatMap_append] at this
  · rw [hy]; refine src_slice hh hj ?_
    rw [Nat.zero_add]; exact rows_part hs us hi
  · have := k id' H' h'
    rw [List.length_append, show ((us.drop i).take n).length = n by simp; omega] at this
    exact this

theorem f_ret0 {q : V → Heap → Prop} (hq : q (.tup []) H) : kEnd [] q .ret env H := ⟨.inr rfl, [], rfl, hq⟩
theorem f_nrm0 {q : V → Heap → Prop} (hq : q (.tup []) H) : kEnd [] q .normal env H := ⟨.inl rfl, [], rfl, hq⟩
theorem f_ret3 {n m k : Nat} {q : V → Heap → Prop} {v v' v'' : V} (hv : env n = v) (hv' : env m = v') (hv'' : env k = v'') (hq : q (.tup [v, v', v'']) H) : kEnd [.t n, .t m, .t k] q .ret env H := ⟨.inr rfl, [v, v', v''], by subst hv hv' hv''; rfl, hq⟩
theorem f_ret4 {n m k j : Nat} {q : V → Heap → Prop} {v v' v'' w : V} (hv : env n = v) (hv' : env m = v') (hv'' : env k = v'') (hw : env j = w) (hq : q (.tup [v, v', v'', w]) H) : kEnd [.t n, .t m, .t k, .t j] q .ret env H := ⟨.inr rfl, [v, v', v'', w], by subst hv hv' hv'' hw; rfl, hq⟩
/-- Results, one by one. -/
theorem f_res {rs : List Res} {q : V → Heap → Prop} {vs : List V} (h : rs.mapM (Res.ev env H) = some vs) (hq : q (retV vs) H) : kEnd rs q .ret env H := ⟨.inr rfl, vs, h, hq⟩
theorem res_t {n : Nat} {v : V} (h : env n = v) : (Res.t n).ev env H = some v := by subst h; rfl
theorem res_cn (hh : Has H L) {n sz id : Nat} {b : Bool} {cs : List V} (ha : env n = .ptr id 0) (hi : At (id, .cells b cs) L) (hl : cs.length = sz + 1) : (Res.cn n (sz + 1)).ev env H = some (.agg cs) := by
  have hne : cs ≠ [] := fun e => by subst e; simp at hl
  simp only [Res.ev, R.ev, X.ev, ha, hh.getc hi.mem hne, getCells_all hl]
theorem res_c1 (hh : Has H L) {n id off : Nat} {b : Bool} {cs : List V} {v : V} (ha : env n = .ptr id off) (hi : At (id, .cells b cs) L) (hv : cs[off]? = some v) : (Res.c1 n).ev env H = some v := by
  simp only [Res.ev, R.ev, X.ev, ha, hh.getc hi.mem (cells_ne hv)]; exact hv
end
end Go.CM
