/-
  A program logic over the model's calls, part 20: the arguments of a given row as abstract values.
-/
import Derived.Test.YtebhddpildfgcaaCmRow
namespace Go.CM
open Go.ChangeShapes Go.WideShapes Go.ChangeAt Go.RowKit

inductive PK where
  | one (k : CK)
  | agg (ks : List CK)
  | rows (ks : List CK)
  deriving Inhabited

def isAggP (P : Program) (t : TypeId) : Bool :=
  match P.underlying t with
  | some (.struct _) => true
  | some (.array _ _) => true
  | _ => false

def pkT (P : Program) (t : TypeId) : Option PK :=
  match P.underlying t with
  | some .bool => some (.one .b)
  | some (.int k) => some (.one (.i k))
  | some .string => some (.one .s)
  | some (.slice e) => match cellsT P 20 e with
    | some ks => bif Nat.beq (P.cellsOf e) ks.length && Nat.blt 0 ks.length then some (.rows ks) else none
    | none => none
  | _ => bif isAggP P t then match cellsT P 20 t with
    | some ks => some (.agg ks)
    | none => none
    else none

def pkTs (P : Program) : List TypeId → Option (List PK)
  | [] => some []
  | t :: ts => match pkT P t, pkTs P ts with
    | some p, some ps => some (p :: ps)
    | _, _ => none

/-- What a slice of the inputs is: nil, or the object that has the rows. -/
def RowsAt (H : Heap) (i sz : Nat) (rs : List (List V)) (v : V) : Prop :=
  ∃ s, v = .slice s 0 rs.length sz ∧ (s = 0 ∧ rs = [] ∨ s = i ∧ s ≠ 0 ∧ H s = some (.cells false rs.flatten))

def GivenA (H : Heap) (i : Nat) : PK → V → Prop
  | .one k, v => Fit k v
  | .agg ks, v => ∃ cs, v = .agg cs ∧ Fits ks cs
  | .rows ks, v => ∃ rs : List (List V), (∀ r ∈ rs, Fits ks r) ∧ rs.length ≤ maxLen ∧ RowsAt H i ks.length rs v

def Givens (H : Heap) : Nat → List PK → List V → Prop
  | _, [], [] => True
  | i, p :: ps, v :: vs => GivenA H i p v ∧ Givens H (i + 1) ps vs
  | _, _, _ => False

theorem Fits.cons {k : CK} {ks : List CK} {l : List V} (h : Fits (k :: ks) l) : ∃ v vs, l = v :: vs ∧ Fit k v ∧ Fits ks vs := by
  cases l with
  | nil => exact absurd h id
  | cons v vs => exact ⟨v, vs, rfl, h.1, h.2⟩
theorem Fits.nil {l : List V} (h : Fits [] l) : l = [] := by
  cases l with
  | nil => rfl
  | cons v vs => exact absurd h id
theorem Givens.cons {H : Heap} {i : Nat} {p : PK} {ps : List PK} {l : List V} (h : Givens H i (p :: ps) l) : ∃ v vs, l = v :: vs ∧ GivenA H i p v ∧ Givens H (i + 1) ps vs := by
  cases l with
  | nil => exact absurd h id
  | cons v vs => exact ⟨v, vs, rfl, h.1, h.2⟩
theorem Givens.nil {H : Heap} {i : Nat} {l : List V} (h : Givens H i [] l) : l = [] := by
  cases l with
  | nil => rfl
  | cons v vs => exact absurd h id

theorem Givens.congr {H H' : Heap} : ∀ {i : Nat} {ps : List PK} {vs : List V}, (∀ j, i ≤ j → H' j = H j) → Givens H i ps vs → Givens H' i ps vs
  | _, [], [], _, _ => trivial
  | i, p :: ps, v :: vs, h, hg => by
    refine ⟨?_, Givens.congr (fun j hj => h j (by omega)) hg.2⟩
    cases p with
    | one k => exact hg.1
    | agg ks => exact hg.1
    | rows ks =>
      obtain ⟨rs, h1, h2, h3⟩ := hg.1
      refine ⟨rs, h1, h2, ?_⟩
      obtain ⟨s, h3, h4⟩ := h3
      refine ⟨s, h3, h4.imp_right ?_⟩
      rintro ⟨rfl, h5, h6⟩
      exact ⟨rfl, h5, by rw [h s (Nat.le_refl _)]; exact h6⟩
  | _, [], _ :: _, _, hg => by simp [Givens] at hg
  | _, _ :: _, [], _, hg => by simp [Givens] at hg

theorem flatten_rows {α : Type} (l : List α) (sz : Nat) : ∀ (n off : Nat), ((List.range n).map fun i => (l.drop (off + i * sz)).take sz).flatten = (l.drop off).take (n * sz) ∨ l.length < off + n * sz
  | 0, off => by simp
  | n + 1, off => by
    by_cases h : l.length < off + (n + 1) * sz
    · exact .inr h
    · refine .inl ?_
      rcases flatten_rows l sz n off with ih | ih
      · rw [List.range_succ, List.map_append, List.flatten_append, ih]
        simp only [List.map_cons, List.map_nil, List.flatten_cons, List.flatten_nil, List.append_nil]
        rw [Nat.succ_mul, List.take_add, List.drop_drop]
      · rw [Nat.succ_mul] at h; omega

/-- A new object that is read alone, at an old place. -/
theorem Rel.ro {ι : Pl} {H : Heap} {w : World} (h : Rel ι H w) {id b off : Nat} {o : HObj} (h0 : id ≠ 0) (hid : H id = none) (hι : ι id = none) (hro : ∀ i x, H i = some x → x.rw = false) (ho : o.rw = false)
    (hnew : ObjR (ι.add id (b, off)) w b off o) : Rel (ι.add id (b, off)) (H.set id o) w := by
  have hle := Pl.le_add (ι := ι) (id := id) (b, off) hι
  refine ⟨fun i x hx => ?_, fun i i' x x' _ _ _ h1 _ hr _ _ => ?_, ?_, by rw [Pl.add_ne _ _ (Ne.symm h0)]; exact h.zero⟩
  · by_cases hi : i = id
    · subst hi
      rw [Heap.set_same] at hx; cases hx
      exact ⟨_, _, Pl.add_same _ _ _, hnew⟩
    · rw [Heap.set_ne _ _ hi] at hx
      obtain ⟨b', off', h1, h2⟩ := h.obj i x hx
      exact ⟨b', off', hle _ _ h1, h2.keep hle (Shp.refl w) rfl⟩
  · by_cases hi : i = id
    · subst hi
      rw [Heap.set_same] at h1; cases h1
      rw [ho] at hr; cases hr
    · rw [Heap.set_ne _ _ hi] at h1
      rw [hro i x h1] at hr; cases hr
  · obtain ⟨N, hN⟩ := h.fin
    refine ⟨max N (id + 1), fun i hi => ?_⟩
    rw [Pl.add_ne _ _ (by omega)]
    exact hN i (by omega)

section
variable {HT : Type} {enc : TypeId × Value → HT} {P : Program} {W : World}

theorem cells_add {a : Addr} {c : Array Value} {e : TypeId} {f : Nat × Nat} (hb : W.heap[a.block]? = some (.cells c e f)) (hs : a.spot = none) (n : Nat) : W.cell? (a.add n) = c[a.off + n]? := by
  by_cases hn : n = 0
  · subst hn; simp [World.cell?, Addr.add, hb, hs]
  · simp [World.cell?, Addr.add, hn, hb]

/-- A SLICE OF AN INPUT, opened. -/
theorem open_rows {t e : TypeId} {fuel : Nat} {v : Value} {x : DataW HT × List MemPlace} {ks : List CK} (ht : P.underlying t = some (.slice e)) (hk : cellsT P 20 e = some ks) (hsz : P.cellsOf e = ks.length) (hpos : 0 < ks.length)
    (hv : ∃ a len cap, v = .slice a len cap) (h : DataW.trod enc P W 0 (fun _ => true) true fuel t v.cells.toList = some x) {ι : Pl} {H : Heap} (hR : Rel ι H W) (hro : ∀ i x, H i = some x → x.rw = false) (id : Nat) (h0 : id ≠ 0) (hid : H id = none) (hι : ι id = none) :
    ∃ (rs : List (List V)) (y : V) (ι' : Pl) (H' : Heap), (∀ r ∈ rs, Fits ks r) ∧ rs.length ≤ maxLen ∧ RowsAt H' id ks.length rs y ∧ Rel ι' H' W ∧ VR ι' W y v ∧ Pl.le ι ι' ∧ (∀ j, j ≠ id → H' j = H j ∧ ι' j = ι j) ∧ (∀ i x, H' i = some x → x.rw = false) := by
  obtain ⟨a0, len0, cap0, rfl⟩ := hv
  rcases Go.Deep.open_slice ht h with ⟨hcs, _⟩ | ⟨a, len, cap, m, n, D, Plc, hcs, _, hl, hm, hmm, _, hx⟩
  · simp [Value.cells] at hcs
    obtain ⟨rfl, rfl, rfl⟩ := hcs
    exact ⟨[], .slice 0 0 0 ks.length, ι, H, by simp, by simp, ⟨0, rfl, .inl ⟨rfl, rfl⟩⟩, hR, .slice0 _ _, fun _ _ h => h, fun _ _ => ⟨rfl, rfl⟩, hro⟩
  · simp [Value.cells] at hcs
    obtain ⟨rfl, rfl, rfl⟩ := hcs
    simp only [ite_true] at hmm
    subst hmm
    rw [hsz] at hx
    by_cases hc0 : m = 0
    · subst hc0
      have : len0 = 0 := by omega
      subst this
      exact ⟨[], .slice 0 0 0 ks.length, ι, H, by simp, by simp, ⟨0, rfl, .inl ⟨rfl, rfl⟩⟩, hR, .slice 0 0 0 ks.length a 0 (Nat.le_refl _) (fun h => absurd h (Nat.lt_irrefl _)), fun _ _ h => h, fun _ _ => ⟨rfl, rfl⟩, hro⟩
    · -- each row
      have row : ∀ i, i < m → ∃ us : List Value, us.length = ks.length ∧ FitsU ks us ∧ ∀ j, j < ks.length → ∃ u, us[j]? = some u ∧ W.cell? (a.add (i * ks.length + j)) = some u := by
        intro i hi
        obtain ⟨us, h1, h2⟩ := hx i hi
        have hf := trod_fits 20 _ _ _ _ _ hk h2
        refine ⟨us, hf.length, hf, fun j hj => ?_⟩
        unfold World.cells? at h1
        split at h1
        · have := mapM_some_get h1 j j (by simp [hj])
          rw [Go.Deep.add_add] at this
          have hlt : j < us.length := by rw [hf.length]; exact hj
          rw [List.getElem?_eq_getElem hlt] at this
          exact ⟨us[j], List.getElem?_eq_getElem hlt, this⟩
        · cases h1
      obtain ⟨us0, _, _, hc⟩ := row 0 (by omega)
      obtain ⟨u0, _, hc0⟩ := hc 0 hpos
      simp only [Nat.zero_mul, Nat.zero_add] at hc0
      have hadd0 : a.add 0 = a := by simp [Addr.add]
      rw [hadd0] at hc0
      have hspot := World.cell?_spot hc0
      obtain ⟨c, e', f', hb⟩ : ∃ c e' f', W.heap[a.block]? = some (.cells c e' f') := by
        unfold World.cell? at hc0
        split at hc0
        · rename_i hb; exact ⟨_, _, _, hb⟩
        · cases hc0
      have hcell : ∀ n, W.cell? (a.add n) = c[a.off + n]? := cells_add hb hspot
      have hroom : a.off + m * ks.length ≤ c.size := by
        obtain ⟨_, _, _, hl⟩ := row (m - 1) (by omega)
        obtain ⟨u, _, h2⟩ := hl (ks.length - 1) (by omega)
        rw [hcell] at h2
        have := (Array.getElem?_eq_some_iff.1 h2).1
        have e : (m - 1) * ks.length + ks.length = m * ks.length := by
          rw [← Nat.succ_mul]; congr 1; omega
        omega
      have rowEq : ∀ i, i < m → FitsU ks ((c.toList.drop (a.off + i * ks.length)).take ks.length) := by
        intro i hi
        obtain ⟨us, h1, h2, h3⟩ := row i hi
        have : (c.toList.drop (a.off + i * ks.length)).take ks.length = us := by
          apply List.ext_getElem?
          intro j
          by_cases hj : j < ks.length
          · obtain ⟨u, h4, h5⟩ := h3 j hj
            rw [hcell] at h5
            rw [List.getElem?_take_of_lt hj, List.getElem?_drop, h4, Array.getElem?_toList, ← h5]
            congr 1; omega
          · rw [List.getElem?_eq_none (by simp; omega), List.getElem?_eq_none (by omega)]
        rw [this]; exact h2
      let rows : List (List V) := (List.range len0).map fun i => ((c.toList.drop (a.off + i * ks.length)).take ks.length).map toV
      have hmul : len0 * ks.length ≤ m * ks.length := Nat.mul_le_mul_right _ hl
      have hflat : rows.flatten = ((c.toList.drop a.off).take (len0 * ks.length)).map toV := by
        have h1 : rows = ((List.range len0).map fun i => (c.toList.drop (a.off + i * ks.length)).take ks.length).map (·.map toV) := by simp [rows]
        rw [h1, ← List.map_flatten]
        rcases flatten_rows c.toList ks.length len0 a.off with h2 | h2
        · rw [h2]
        · simp at h2; omega
      have hlenr : rows.length = len0 := by simp [rows]
      have hpl := Pl.le_add (ι := ι) (id := id) (a.block, a.off) hι
      refine ⟨rows, .slice id 0 rows.length ks.length, ι.add id (a.block, a.off), H.set id (.cells false rows.flatten), ?_, by omega, ⟨id, rfl, .inr ⟨rfl, h0, Heap.set_same _ _ _⟩⟩, ?_, ?_, hpl, ?_, ?_⟩
      · intro r hr
        obtain ⟨i, hi, rfl⟩ := List.mem_map.1 hr
        exact ((rowEq i (by have := List.mem_range.1 hi; omega)).toV (ι := ι) (w := W)).2.2
      · refine hR.ro h0 hid hι hro rfl ⟨c, e', f', hb, fun k v hk => ?_, by simp, ?_⟩
        · rw [hflat, List.getElem?_map] at hk
          obtain ⟨u, hu, rfl⟩ := Option.map_eq_some_iff.1 hk
          have hkl : k < len0 * ks.length := by
            have := (List.getElem?_eq_some_iff.1 hu).1
            simp at this; omega
          rw [List.getElem?_take_of_lt hkl, List.getElem?_drop, Array.getElem?_toList] at hu
          have hdm := Nat.div_add_mod k ks.length
          have hq : k / ks.length < len0 := Nat.div_lt_of_lt_mul (by rw [Nat.mul_comm]; exact hkl)
          have hr : k % ks.length < ks.length := Nat.mod_lt _ hpos
          have hrow := rowEq (k / ks.length) (by omega)
          have : ((c.toList.drop (a.off + k / ks.length * ks.length)).take ks.length)[k % ks.length]? = some u := by
            rw [List.getElem?_take_of_lt hr, List.getElem?_drop, Array.getElem?_toList, ← hu]
            congr 1
            rw [Nat.mul_comm] at hdm; omega
          obtain ⟨kk, hkk⟩ := hrow.get this
          obtain ⟨g1, g2, _⟩ := hkk.toV (ι := ι.add id (a.block, a.off)) (w := W)
          exact ⟨u, hu, g1, g2⟩
        · rw [hflat]; simp; omega
      · rw [hlenr]
        refine .slice id 0 len0 ks.length a m hl fun _ => ⟨a.block, a.off, c, e', f', Pl.add_same _ _ _, ?_, hb, by omega⟩
        cases a; simp_all
      · intro j hj
        exact ⟨Heap.set_ne _ _ hj, Pl.add_ne _ _ hj⟩
      · intro i x hx
        by_cases hi : i = id
        · subst hi
          rw [Heap.set_same] at hx; cases hx; rfl
        · rw [Heap.set_ne _ _ hi] at hx
          exact hro i x hx

theorem cells_scalar {k : CK} {v : Value} (hn : ∀ cs, v ≠ .agg cs) (h : FitsU [k] v.cells.toList) : FitU k v := by
  cases v <;> first | exact absurd rfl (hn _) | exact h.1

/-- THE ARGUMENTS OF A ROW, opened. -/
theorem open_args : ∀ (ts : List TypeId) (pks : List PK) (i : Nat) (args : List Value) (ds : List (DataW HT)) (ps : List MemPlace), 0 < i → pkTs P ts = some pks →
    DataW.TrodAll enc P W 0 (fun _ => true) true ts args ds ps → (∀ (j : Nat) t v, ts[j]? = some t → args[j]? = some v → ∃ base, Value.okWide P W .any base t v) →
    ∃ (vs : List V) (ι : Pl) (H : Heap), VRs ι W vs args ∧ Rel ι H W ∧ (∀ id o, H id = some o → o.rw = false) ∧ (∀ j, j < i → H j = none ∧ ι j = none) ∧ Givens H i pks vs
  | [], pks, i, args, ds, ps, _, hp, h, _ => by
    simp only [pkTs] at hp; cases hp
    obtain ⟨rfl, _, _⟩ := trodAll_nil h
    refine ⟨[], fun _ => none, fun _ => none, .nil, ⟨?_, ?_, ⟨0, fun _ _ => rfl⟩, rfl⟩, ?_, fun _ _ => ⟨rfl, rfl⟩, trivial⟩
    · intro _ _ h; cases h
    · intro _ _ _ _ _ _ _ h; cases h
    · intro _ _ h; cases h
  | t :: ts, pks, i, args, ds, ps, hi0, hp, h, hok => by
    simp only [pkTs] at hp
    split at hp
    · rename_i pk pks' h1 h2
      cases hp
      obtain ⟨v, vs', d, ds', p, q, rfl, rfl, rfl, ⟨fuel, hv⟩, hvs⟩ := trodAll_cons h
      obtain ⟨vs, ι, H, g1, g2, g3, g4, g5⟩ := open_args ts pks' (i + 1) vs' ds' q (Nat.succ_pos _) h2 hvs fun j t' v' ht hv => hok (j + 1) t' v' (by simpa using ht) (by simpa using hv)
      obtain ⟨base, hw⟩ := hok 0 t v rfl rfl
      have scal : ∀ k, FitU k v → pk = .one k → ∃ (vs : List V) (ι : Pl) (H : Heap), VRs ι W vs (v :: vs') ∧ Rel ι H W ∧ (∀ id o, H id = some o → o.rw = false) ∧ (∀ j, j < i → H j = none ∧ ι j = none) ∧ Givens H i (pk :: pks') vs := by
        rintro k hk rfl
        obtain ⟨a, _, b⟩ := hk.toV (ι := ι) (w := W)
        exact ⟨toV v :: vs, ι, H, .cons _ _ _ _ a g1, g2, g3, fun j hj => g4 j (by omega), b, g5⟩
      unfold pkT at h1
      split at h1
      · rename_i hu
        cases h1
        obtain ⟨b, rfl⟩ := okWide_bool hu hw
        exact scal .b ⟨b, rfl⟩ rfl
      · rename_i k hu
        cases h1
        obtain ⟨n, rfl⟩ := okWide_int hu hw
        obtain ⟨n', hc, _, hwf⟩ := DataW.trod_int hu hv
        simp [Value.cells] at hc
        subst hc
        exact scal (.i k) ⟨n, rfl, hwf⟩ rfl
      · rename_i hu
        cases h1
        obtain ⟨s, rfl⟩ := okWide_string hu hw
        obtain ⟨s', hc, _, hs⟩ := DataW.trod_string hu hv
        simp [Value.cells] at hc
        subst hc
        exact scal .s ⟨s, rfl, hs⟩ rfl
      · rename_i e hu
        split at h1
        · rename_i ks hk
          cases hb : Nat.beq (P.cellsOf e) ks.length && Nat.blt 0 ks.length with
          | false => rw [hb] at h1; cases h1
          | true =>
            rw [hb] at h1; cases h1
            simp only [Bool.and_eq_true] at hb
            have hsz := Nat.eq_of_beq_eq_true hb.1
            have hpos : 0 < ks.length := Nat.le_of_ble_eq_true hb.2
            obtain ⟨rs, y, ι', H', k1, k2, k3, k4, k5, k6, k7, k8⟩ := open_rows hu hk hsz hpos (okWide_slice hu hw) hv g2 g3 i (by omega) (g4 i (by omega)).1 (g4 i (by omega)).2
            refine ⟨y :: vs, ι', H', .cons _ _ _ _ k5 (g1.mono k6 (Shp.refl W)), k4, k8, fun j hj => ?_, ⟨rs, k1, k2, k3⟩, g5.congr fun j hj => (k7 j (by omega)).1⟩
            obtain ⟨a, b⟩ := k7 j (by omega)
            rw [a, b]; exact g4 j (by omega)
        · cases h1
      · cases hag : isAggP P t with
        | false => rw [hag] at h1; cases h1
        | true =>
          rw [hag] at h1
          simp only [cond_true] at h1
          split at h1
          · rename_i ks hk
            cases h1
            have hf := trod_fits 20 _ _ _ _ _ hk hv
            obtain ⟨cs, rfl⟩ : ∃ cs, v = .agg cs := by
              unfold isAggP at hag
              unfold Value.okWide at hw
              split at hag
              · rename_i fs hu
                rw [hu] at hw
                obtain ⟨cs, h, _⟩ := hw
                exact ⟨cs, h⟩
              · rename_i n e hu
                rw [hu] at hw
                obtain ⟨cs, h, _⟩ := hw
                exact ⟨cs, h⟩
              · cases hag
            simp only [Value.cells] at hf
            obtain ⟨a, b, c⟩ := hf.toV (ι := ι) (w := W)
            refine ⟨.agg (cs.toList.map toV) :: vs, ι, H, .cons _ _ _ _ ?_ g1, g2, g3, fun j hj => g4 j (by omega), ⟨_, rfl, c⟩, g5⟩
            have := VR.agg (ι := ι) (w := W) _ _ a b
            exact this
          · cases h1
    · cases hp

/-- A LAW'S CALL: what is shown of abstract inputs is so of the row's. -/
theorem law_calls {f : FuncId} {ts : List TypeId} {pks : List PK} {args : Array Value} {ds : List (DataW HT)} {ps : List MemPlace} (hp : pkTs P ts = some pks)
    (hA : DataW.TrodAll enc P W 0 (fun _ => true) true ts args.toList ds ps) (hok : ∀ (j : Nat) t v, ts[j]? = some t → args[j]? = some v → ∃ base, Value.okWide P W .any base t v)
    (hC : ∀ (vs : List V) (H : Heap), Givens H 1 pks vs → (∀ id o, H id = some o → o.rw = false) → CallsC P f vs H fun v _ => v = .bool true) :
    Calls P f args W fun e W' => e = .returned (.bool true) ∧ Below W.heap.size W W' := by
  obtain ⟨vs, ι, H, h1, h2, h3, _, h5⟩ := open_args ts pks 1 args.toList ds ps Nat.one_pos hp hA fun j t v ht hv => hok j t v ht (by simpa using hv)
  refine ((hC vs H h5 h3).2 ι W args.toList h2 h1).mono ?_
  rintro e W' ⟨ι', H', v, u, rfl, hv, hR, hX, rfl⟩
  cases hv
  refine ⟨rfl, hX.os, hX.tape.eq, hX.output, hX.size, fun k hk => hX.frame k hk ?_⟩
  rintro ⟨id, o, off, a, b, _⟩
  rw [h3 id o a] at b; cases b

theorem trodAll_below (hl : laidOutB P = true) {W' : World} (hb : Below W.heap.size W W') : ∀ {ts : List TypeId} {args : List Value} {ds : List (DataW HT)} {ps : List MemPlace}, (ts.all fun t => P.readableRec t && Nat.blt t P.types.size) = true →
    DataW.TrodAll enc P W 0 (fun _ => true) true ts args ds ps → DataW.TrodAll enc P W' 0 (fun b => decide (b < W.heap.size)) true ts args ds ps
  | [], args, ds, ps, _, h => by
    obtain ⟨rfl, rfl, rfl⟩ := trodAll_nil h
    exact trodAll_mk0
  | t :: ts, args, ds, ps, ht, h => by
    obtain ⟨v, vs', d, ds', p, q, rfl, rfl, rfl, hv, hvs⟩ := trodAll_cons h
    simp only [List.all_cons, Bool.and_eq_true] at ht
    refine trodAll_cons_mk (Below.trod hl ht.1.1 (Nat.le_of_ble_eq_true ht.1.2) hv hb ?_) (trodAll_below hl hb ht.2 hvs)
    obtain ⟨m, hm⟩ := hv
    exact DataW.trod_lt m _ _ _ hm

end
end Go.CM
