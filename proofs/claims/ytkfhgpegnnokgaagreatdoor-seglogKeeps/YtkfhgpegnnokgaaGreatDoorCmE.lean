/-
  A program logic over the model's calls: its texts CmRow CmRow2 CmMeth, joined.
-/
import Derived.Test.YtkfhgpegnnokgaaGreatDoorCmD
import Derived.Deep.Slices
import Derived.WalkKit
import Derived.ProofKit
import Derived.OpenShut
import Derived.ShutString
import Derived.ChangeOld
import Derived.Below
import Derived.Carry
import Derived.SizedLaws
import Derived.WideShapes
namespace Go.CM
open Go.ChangeShapes Go.WideShapes

inductive CK where
  | b | i (k : IntKind) | s
  deriving Inhabited

def Fit : CK → V → Prop
  | .b, v => ∃ b, v = .bool b
  | .i k, v => ∃ n, v = .int k n ∧ (Lit.int k n).wf = true
  | .s, v => ∃ s : List UInt8, v = .str s ∧ s.length ≤ maxLen
def Fits : List CK → List V → Prop
  | [], [] => True
  | k :: ks, v :: vs => Fit k v ∧ Fits ks vs
  | _, _ => False

def toV : Value → V
  | .bool b => .bool b
  | .int k n => .int k n
  | .string s => .str s.data.toList
  | _ => V.undef

def FitU : CK → Value → Prop
  | .b, u => ∃ b, u = .bool b
  | .i k, u => ∃ n, u = .int k n ∧ (Lit.int k n).wf = true
  | .s, u => ∃ s : ByteArray, u = .string s ∧ s.size ≤ maxLen
def FitsU : List CK → List Value → Prop
  | [], [] => True
  | k :: ks, u :: us => FitU k u ∧ FitsU ks us
  | _, _ => False

theorem FitU.toV {ι : Pl} {w : World} {k : CK} {u : Value} (h : FitU k u) : VR ι w (toV u) u ∧ one u = true ∧ Fit k (CM.toV u) := by
  cases k with
  | b => obtain ⟨b, rfl⟩ := h; exact ⟨.bool b, rfl, b, rfl⟩
  | i k => obtain ⟨n, rfl, h⟩ := h; exact ⟨.int k n, rfl, n, rfl, h⟩
  | s => obtain ⟨s, rfl, h⟩ := h; exact ⟨.str s, rfl, _, rfl, by simpa using h⟩

theorem FitsU.length {ks : List CK} {us : List Value} (h : FitsU ks us) : us.length = ks.length := by
  induction ks generalizing us with
  | nil => cases us <;> simp_all [FitsU]
  | cons k ks ih => cases us with
    | nil => simp [FitsU] at h
    | cons u us => simp [ih h.2]

theorem FitsU.append {ks ks' : List CK} {us us' : List Value} (h : FitsU ks us) (h' : FitsU ks' us') : FitsU (ks ++ ks') (us ++ us') := by
  induction ks generalizing us with
  | nil => cases us <;> simp_all [FitsU]
  | cons k ks ih => cases us with
    | nil => simp [FitsU] at h
    | cons u us => exact ⟨h.1, ih h.2⟩

theorem FitsU.get {ks : List CK} {us : List Value} (h : FitsU ks us) {j : Nat} {u : Value} (hu : us[j]? = some u) : ∃ k, FitU k u := by
  induction ks generalizing us j with
  | nil => cases us <;> simp_all [FitsU]
  | cons k ks ih => cases us with
    | nil => simp [FitsU] at h
    | cons x us => cases j with
      | zero => simp at hu; subst hu; exact ⟨k, h.1⟩
      | succ j => exact ih h.2 (by simpa using hu)

theorem FitsU.toV {ι : Pl} {w : World} {ks : List CK} {us : List Value} (h : FitsU ks us) : VRs ι w (us.map toV) us ∧ us.all one = true ∧ Fits ks (us.map CM.toV) := by
  induction ks generalizing us with
  | nil => cases us with
    | nil => exact ⟨.nil, rfl, trivial⟩
    | cons _ _ => simp [FitsU] at h
  | cons k ks ih => cases us with
    | nil => simp [FitsU] at h
    | cons u us =>
      obtain ⟨a, b, c⟩ := h.1.toV (ι := ι) (w := w)
      obtain ⟨d, e, f⟩ := ih h.2
      exact ⟨.cons _ _ _ _ a d, by simp [b, e], c, f⟩

def cellsF (P : Program) (rec : TypeId → Option (List CK)) : Nat → List Field → Option (List CK)
  | _, [] => some []
  | off, f :: fs => match rec f.type with
    | some ks => bif Nat.beq f.offset off && Nat.beq (P.cellsOf f.type) ks.length then
        match cellsF P rec (off + ks.length) fs with
        | some r => some (ks ++ r)
        | none => none
      else none
    | none => none

def repK (ks : List CK) : Nat → List CK
  | 0 => []
  | n + 1 => ks ++ repK ks n

def cellsT (P : Program) : Nat → TypeId → Option (List CK)
  | 0, _ => none
  | d + 1, t => match P.underlying t with
    | some .bool => some [.b]
    | some (.int k) => some [.i k]
    | some .string => some [.s]
    | some (.struct fs) => match cellsF P (cellsT P d) 0 fs.toList with
      | some ks => bif Nat.beq (P.cellsOf t) ks.length then some ks else none
      | none => none
    | some (.array n e) => match cellsT P d e with
      | some ks => bif Nat.beq (P.cellsOf t) (n * ks.length) && Nat.beq (P.cellsOf e) ks.length then some (repK ks n) else none
      | none => none
    | _ => none

theorem repK_fits {ks : List CK} : ∀ (n : Nat) (us : List Value), us.length = n * ks.length → (∀ i, i < n → FitsU ks ((us.drop (i * ks.length)).take ks.length)) → FitsU (repK ks n) us
  | 0, us, h, _ => by
    have : us = [] := List.eq_nil_of_length_eq_zero (by simpa using h)
    subst this; trivial
  | n + 1, us, h, hi => by
    have h0 := hi 0 (by omega)
    simp at h0
    rw [← List.take_append_drop ks.length us]
    refine h0.append (repK_fits n _ (by rw [List.length_drop, h, Nat.succ_mul]; omega) fun i hin => ?_)
    have := hi (i + 1) (by omega)
    rw [List.drop_drop]
    rw [Nat.succ_mul, Nat.add_comm] at this
    exact this

section
variable {H : Type} {enc : TypeId × Value → H} {P : Program} {w : World} {base : Nat} {spare : Nat → Bool} {held : Bool}

theorem trod_fits : ∀ (d fuel : Nat) (t : TypeId) (cs : List Value) (x : DataW H × List MemPlace) (ks : List CK), cellsT P d t = some ks →
    DataW.trod enc P w base spare held fuel t cs = some x → FitsU ks cs := by
  intro d
  induction d with
  | zero => intro fuel t cs x ks hk; simp [cellsT] at hk
  | succ d ih =>
    intro fuel t cs x ks hk h
    simp only [cellsT] at hk
    split at hk
    · rename_i ht
      cases hk
      obtain ⟨b, rfl, _⟩ := DataW.trod_bool ht h
      exact ⟨⟨b, rfl⟩, trivial⟩
    · rename_i k ht
      cases hk
      obtain ⟨n, rfl, _, hw⟩ := DataW.trod_int ht h
      exact ⟨⟨n, rfl, hw⟩, trivial⟩
    · rename_i ht
      cases hk
      obtain ⟨s, rfl, _, hw⟩ := DataW.trod_string ht h
      exact ⟨⟨s, rfl, hw⟩, trivial⟩
    · rename_i fs ht
      split at hk
      · rename_i kk hf
        cases hb : Nat.beq (P.cellsOf t) kk.length with
        | false => rw [hb] at hk; cases hk
        | true =>
          rw [hb] at hk; cases hk
          have hsz := Nat.eq_of_beq_eq_true hb
          obtain ⟨xs, n, rfl, _, hlen, _, hx⟩ := DataW.trod_struct ht h
          have hx' : ∀ f ∈ fs.toList, ∃ y, DataW.trod enc P w base spare held n f.type ((cs.drop f.offset).take (P.cellsOf f.type)) = some y := by
            intro f hfm
            obtain ⟨i, hi⟩ := List.getElem?_of_mem hfm
            have hi' : fs[i]? = some f := by rw [← Array.getElem?_toList]; exact hi
            have := hx i f hi'
            have hlt : i < xs.length := by
              have := (List.getElem?_eq_some_iff.1 hi).1
              simp at this; omega
            rw [List.getElem?_eq_getElem hlt] at this
            exact ⟨_, this⟩
          have key : ∀ (l : List Field) (off : Nat) (kk : List CK), cellsF P (cellsT P d) off l = some kk → (∀ f ∈ l, ∃ y, DataW.trod enc P w base spare held n f.type ((cs.drop f.offset).take (P.cellsOf f.type)) = some y) →
              cs.length = off + kk.length → FitsU kk (cs.drop off) := by
            intro l
            induction l with
            | nil =>
              intro off kk hk _ hl
              simp only [cellsF] at hk; cases hk
              rw [List.drop_of_length_le (by simpa using Nat.le_of_eq hl)]
              trivial
            | cons f l ihl =>
              intro off kk hk hy hl
              simp only [cellsF] at hk
              split at hk
              · rename_i k1 hk1
                cases hb : Nat.beq f.offset off && Nat.beq (P.cellsOf f.type) k1.length with
                | false => rw [hb] at hk; cases hk
                | true =>
                  rw [hb] at hk
                  simp only [Bool.and_eq_true] at hb
                  have ho := Nat.eq_of_beq_eq_true hb.1
                  have hc := Nat.eq_of_beq_eq_true hb.2
                  simp only [cond_true] at hk
                  split at hk
                  · rename_i k2 hk2
                    cases hk
                    obtain ⟨y, hy1⟩ := hy f (by simp)
                    rw [ho, hc] at hy1
                    have h1 := ih _ _ _ _ _ hk1 hy1
                    have h2 := ihl (off + k1.length) k2 hk2 (fun f hf => hy f (by simp [hf])) (by simp at hl; omega)
                    rw [← List.take_append_drop k1.length (cs.drop off), List.drop_drop]
                    exact h1.append h2
                  · cases hk
              · cases hk
          have := key fs.toList 0 _ hf hx' (by omega)
          simpa using this
      · cases hk
    · rename_i n e ht
      split at hk
      · rename_i kk hke
        cases hb : Nat.beq (P.cellsOf t) (n * kk.length) && Nat.beq (P.cellsOf e) kk.length with
        | false => rw [hb] at hk; cases hk
        | true =>
          rw [hb] at hk; cases hk
          simp only [Bool.and_eq_true] at hb
          have h1 := Nat.eq_of_beq_eq_true hb.1
          have h2 := Nat.eq_of_beq_eq_true hb.2
          cases fuel with
          | zero => simp [DataW.trod] at h
          | succ fuel =>
            unfold DataW.trod at h
            rw [ht] at h
            simp only at h
            split at h
            · rename_i hl
              obtain ⟨xs, hp, _⟩ := Option.map_eq_some_iff.1 h
              refine repK_fits n cs (by rw [hl, h1]) fun i hi => ?_
              have hlen := mapM_some_length hp
              simp at hlen
              have := mapM_some_get hp i i (by simp [hi])
              rw [List.getElem?_eq_getElem (by omega)] at this
              rw [← h2]
              exact ih _ _ _ _ _ hke this
            · cases h
      · cases hk
    · cases hk

end
end Go.CM

namespace Go.CM
open Go.ChangeShapes Go.WideShapes Go.ChangeAt Go.RowKit

inductive PK where
  | one (k : CK)
  | agg (ks : List CK)
  | rows (ks : List CK)
  deriving Inhabited

def isAggP (P : Program) (t : TypeId) : Bool :=
  match P.underlying t with
  | some (.struct _) => true
  | some (.array _ _) => true
  | _ => false

def pkT (P : Program) (t : TypeId) : Option PK :=
  match P.underlying t with
  | some .bool => some (.one .b)
  | some (.int k) => some (.one (.i k))
  | some .string => some (.one .s)
  | some (.slice e) => match cellsT P 20 e with
    | some ks => bif Nat.beq (P.cellsOf e) ks.length && Nat.blt 0 ks.length then some (.rows ks) else none
    | none => none
  | _ => bif isAggP P t then match cellsT P 20 t with
    | some ks => some (.agg ks)
    | none => none
    else none

def pkTs (P : Program) : List TypeId → Option (List PK)
  | [] => some []
  | t :: ts => match pkT P t, pkTs P ts with
    | some p, some ps => some (p :: ps)
    | _, _ => none

def RowsAt (H : Heap) (i sz : Nat) (rs : List (List V)) (v : V) : Prop :=
  ∃ s, v = .slice s 0 rs.length sz ∧ (s = 0 ∧ rs = [] ∨ s = i ∧ s ≠ 0 ∧ H s = some (.cells false rs.flatten))

def GivenA (H : Heap) (i : Nat) : PK → V → Prop
  | .one k, v => Fit k v
  | .agg ks, v => ∃ cs, v = .agg cs ∧ Fits ks cs
  | .rows ks, v => ∃ rs : List (List V), (∀ r ∈ rs, Fits ks r) ∧ rs.length ≤ maxLen ∧ RowsAt H i ks.length rs v

def Givens (H : Heap) : Nat → List PK → List V → Prop
  | _, [], [] => True
  | i, p :: ps, v :: vs => GivenA H (2 * i) p v ∧ Givens H (i + 1) ps vs
  | _, _, _ => False

theorem Fits.cons {k : CK} {ks : List CK} {l : List V} (h : Fits (k :: ks) l) : ∃ v vs, l = v :: vs ∧ Fit k v ∧ Fits ks vs := by
  cases l with
  | nil => exact absurd h id
  | cons v vs => exact ⟨v, vs, rfl, h.1, h.2⟩
theorem Fits.nil {l : List V} (h : Fits [] l) : l = [] := by
  cases l with
  | nil => rfl
  | cons v vs => exact absurd h id
theorem Givens.cons {H : Heap} {i : Nat} {p : PK} {ps : List PK} {l : List V} (h : Givens H i (p :: ps) l) : ∃ v vs, l = v :: vs ∧ GivenA H (2 * i) p v ∧ Givens H (i + 1) ps vs := by
  cases l with
  | nil => exact absurd h id
  | cons v vs => exact ⟨v, vs, rfl, h.1, h.2⟩
theorem Givens.nil {H : Heap} {i : Nat} {l : List V} (h : Givens H i [] l) : l = [] := by
  cases l with
  | nil => rfl
  | cons v vs => exact absurd h id

theorem Givens.congr {H H' : Heap} : ∀ {i : Nat} {ps : List PK} {vs : List V}, (∀ j, i ≤ j → H' (2 * j) = H (2 * j)) → Givens H i ps vs → Givens H' i ps vs
  | _, [], [], _, _ => trivial
  | i, p :: ps, v :: vs, h, hg => by
    refine ⟨?_, Givens.congr (fun j hj => h j (by omega)) hg.2⟩
    cases p with
    | one k => exact hg.1
    | agg ks => exact hg.1
    | rows ks =>
      obtain ⟨rs, h1, h2, h3⟩ := hg.1
      refine ⟨rs, h1, h2, ?_⟩
      obtain ⟨s, h3, h4⟩ := h3
      refine ⟨s, h3, h4.imp_right ?_⟩
      rintro ⟨rfl, h5, h6⟩
      exact ⟨rfl, h5, by rw [h i (Nat.le_refl _)]; exact h6⟩
  | _, [], _ :: _, _, hg => by simp [Givens] at hg
  | _, _ :: _, [], _, hg => by simp [Givens] at hg

theorem flatten_rows {α : Type} (l : List α) (sz : Nat) : ∀ (n off : Nat), ((List.range n).map fun i => (l.drop (off + i * sz)).take sz).flatten = (l.drop off).take (n * sz) ∨ l.length < off + n * sz
  | 0, off => by simp
  | n + 1, off => by
    by_cases h : l.length < off + (n + 1) * sz
    · exact .inr h
    · refine .inl ?_
      rcases flatten_rows l sz n off with ih | ih
      · rw [List.range_succ, List.map_append, List.flatten_append, ih]
        simp only [List.map_cons, List.map_nil, List.flatten_cons, List.flatten_nil, List.append_nil]
        rw [Nat.succ_mul, List.take_add, List.drop_drop]
      · rw [Nat.succ_mul] at h; omega

theorem Rel.ro {ι : Pl} {H : Heap} {w : World} (h : Rel ι H w) {id b off : Nat} {o : HObj} (h0 : id ≠ 0) (hid : H id = none) (hι : ι id = none) (hro : ∀ i x, H i = some x → x.rw = false) (ho : o.rw = false)
    (hnew : ObjR (ι.add id (b, off)) w b off o) : Rel (ι.add id (b, off)) (H.set id o) w := by
  have hle := Pl.le_add (ι := ι) (id := id) (b, off) hι
  refine ⟨fun i x hx => ?_, fun i i' x x' _ _ _ h1 _ hr _ _ => ?_, ?_, by rw [Pl.add_ne _ _ (Ne.symm h0)]; exact h.zero, fun g => hle _ _ (h.glob g)⟩
  · by_cases hi : i = id
    · subst hi
      rw [Heap.set_same] at hx; cases hx
      exact ⟨_, _, Pl.add_same _ _ _, hnew⟩
    · rw [Heap.set_ne _ _ hi] at hx
      obtain ⟨b', off', h1, h2⟩ := h.obj i x hx
      exact ⟨b', off', hle _ _ h1, h2.keep hle (Shp.refl w) rfl⟩
  · by_cases hi : i = id
    · subst hi
      rw [Heap.set_same] at h1; cases h1
      rw [ho] at hr; cases hr
    · rw [Heap.set_ne _ _ hi] at h1
      rw [hro i x h1] at hr; cases hr
  · obtain ⟨N, hN⟩ := h.fin
    refine ⟨max N (id + 1), fun i hi he => ?_⟩
    rw [Pl.add_ne _ _ (by omega)]
    exact hN i (by omega) he

section
variable {HT : Type} {enc : TypeId × Value → HT} {P : Program} {W : World}

theorem cells_add {a : Addr} {c : Array Value} {e : TypeId} {f : Nat × Nat} (hb : W.heap[a.block]? = some (.cells c e f)) (hs : a.spot = none) (n : Nat) : W.cell? (a.add n) = c[a.off + n]? := by
  by_cases hn : n = 0
  · subst hn; simp [World.cell?, Addr.add, hb, hs]
  · simp [World.cell?, Addr.add, hn, hb]

theorem open_rows {t e : TypeId} {fuel : Nat} {v : Value} {x : DataW HT × List MemPlace} {ks : List CK} (ht : P.underlying t = some (.slice e)) (hk : cellsT P 20 e = some ks) (hsz : P.cellsOf e = ks.length) (hpos : 0 < ks.length)
    (hv : ∃ a len cap, v = .slice a len cap) (h : DataW.trod enc P W 0 (fun _ => true) true fuel t v.cells.toList = some x) {ι : Pl} {H : Heap} (hR : Rel ι H W) (hro : ∀ i x, H i = some x → x.rw = false) (id : Nat) (h0 : id ≠ 0) (hid : H id = none) (hι : ι id = none) :
    ∃ (rs : List (List V)) (y : V) (ι' : Pl) (H' : Heap), (∀ r ∈ rs, Fits ks r) ∧ rs.length ≤ maxLen ∧ RowsAt H' id ks.length rs y ∧ Rel ι' H' W ∧ VR ι' W y v ∧ Pl.le ι ι' ∧ (∀ j, j ≠ id → H' j = H j ∧ ι' j = ι j) ∧ (∀ i x, H' i = some x → x.rw = false) := by
  obtain ⟨a0, len0, cap0, rfl⟩ := hv
  rcases Go.Deep.open_slice ht h with ⟨hcs, _⟩ | ⟨a, len, cap, m, n, D, Plc, hcs, _, hl, hm, hmm, _, hx⟩
  · simp [Value.cells] at hcs
    obtain ⟨rfl, rfl, rfl⟩ := hcs
    exact ⟨[], .slice 0 0 0 ks.length, ι, H, by simp, by simp, ⟨0, rfl, .inl ⟨rfl, rfl⟩⟩, hR, .slice0 _ _, fun _ _ h => h, fun _ _ => ⟨rfl, rfl⟩, hro⟩
  · simp [Value.cells] at hcs
    obtain ⟨rfl, rfl, rfl⟩ := hcs
    simp only [ite_true] at hmm
    subst hmm
    rw [hsz] at hx
    by_cases hc0 : m = 0
    · subst hc0
      have : len0 = 0 := by omega
      subst this
      exact ⟨[], .slice 0 0 0 ks.length, ι, H, by simp, by simp, ⟨0, rfl, .inl ⟨rfl, rfl⟩⟩, hR, .slice 0 0 0 ks.length a 0 (Nat.le_refl _) (fun h => absurd h (Nat.lt_irrefl _)), fun _ _ h => h, fun _ _ => ⟨rfl, rfl⟩, hro⟩
    · -- each row
      have row : ∀ i, i < m → ∃ us : List Value, us.length = ks.length ∧ FitsU ks us ∧ ∀ j, j < ks.length → ∃ u, us[j]? = some u ∧ W.cell? (a.add (i * ks.length + j)) = some u := by
        intro i hi
        obtain ⟨us, h1, h2⟩ := hx i hi
        have hf := trod_fits 20 _ _ _ _ _ hk h2
        refine ⟨us, hf.length, hf, fun j hj => ?_⟩
        unfold World.cells? at h1
        split at h1
        · have := mapM_some_get h1 j j (by simp [hj])
          rw [Go.Deep.add_add] at this
          have hlt : j < us.length := by rw [hf.length]; exact hj
          rw [List.getElem?_eq_getElem hlt] at this
          exact ⟨us[j], List.getElem?_eq_getElem hlt, this⟩
        · cases h1
      obtain ⟨us0, _, _, hc⟩ := row 0 (by omega)
      obtain ⟨u0, _, hc0⟩ := hc 0 hpos
      simp only [Nat.zero_mul, Nat.zero_add] at hc0
      have hadd0 : a.add 0 = a := by simp [Addr.add]
      rw [hadd0] at hc0
      have hspot := World.cell?_spot hc0
      obtain ⟨c, e', f', hb⟩ : ∃ c e' f', W.heap[a.block]? = some (.cells c e' f') := by
        unfold World.cell? at hc0
        split at hc0
        · rename_i hb; exact ⟨_, _, _, hb⟩
        · cases hc0
      have hcell : ∀ n, W.cell? (a.add n) = c[a.off + n]? := cells_add hb hspot
      have hroom : a.off + m * ks.length ≤ c.size := by
        obtain ⟨_, _, _, hl⟩ := row (m - 1) (by omega)
        obtain ⟨u, _, h2⟩ := hl (ks.length - 1) (by omega)
        rw [hcell] at h2
        have := (Array.getElem?_eq_some_iff.1 h2).1
        have e : (m - 1) * ks.length + ks.length = m * ks.length := by
          rw [← Nat.succ_mul]; congr 1; omega
        omega
      have rowEq : ∀ i, i < m → FitsU ks ((c.toList.drop (a.off + i * ks.length)).take ks.length) := by
        intro i hi
        obtain ⟨us, h1, h2, h3⟩ := row i hi
        have : (c.toList.drop (a.off + i * ks.length)).take ks.length = us := by
          apply List.ext_getElem?
          intro j
          by_cases hj : j < ks.length
          · obtain ⟨u, h4, h5⟩ := h3 j hj
            rw [hcell] at h5
            rw [List.getElem?_take_of_lt hj, List.getElem?_drop, h4, Array.getElem?_toList, ← h5]
            congr 1; omega
          · rw [List.getElem?_eq_none (by simp; omega), List.getElem?_eq_none (by omega)]
        rw [this]; exact h2
      let rows : List (List V) := (List.range len0).map fun i => ((c.toList.drop (a.off + i * ks.length)).take ks.length).map toV
      have hmul : len0 * ks.length ≤ m * ks.length := Nat.mul_le_mul_right _ hl
      have hflat : rows.flatten = ((c.toList.drop a.off).take (len0 * ks.length)).map toV := by
        have h1 : rows = ((List.range len0).map fun i => (c.toList.drop (a.off + i * ks.length)).take ks.length).map (·.map toV) := by simp [rows]
        rw [h1, ← List.map_flatten]
        rcases flatten_rows c.toList ks.length len0 a.off with h2 | h2
        · rw [h2]
        · simp at h2; omega
      have hlenr : rows.length = len0 := by simp [rows]
      have hpl := Pl.le_add (ι := ι) (id := id) (a.block, a.off) hι
      refine ⟨rows, .slice id 0 rows.length ks.length, ι.add id (a.block, a.off), H.set id (.cells false rows.flatten), ?_, by omega, ⟨id, rfl, .inr ⟨rfl, h0, Heap.set_same _ _ _⟩⟩, ?_, ?_, hpl, ?_, ?_⟩
      · intro r hr
        obtain ⟨i, hi, rfl⟩ := List.mem_map.1 hr
        exact ((rowEq i (by have := List.mem_range.1 hi; omega)).toV (ι := ι) (w := W)).2.2
      · refine hR.ro h0 hid hι hro rfl ⟨c, e', f', hb, fun k v hk => ?_, by simp, ?_⟩
        · rw [hflat, List.getElem?_map] at hk
          obtain ⟨u, hu, rfl⟩ := Option.map_eq_some_iff.1 hk
          have hkl : k < len0 * ks.length := by
            have := (List.getElem?_eq_some_iff.1 hu).1
            simp at this; omega
          rw [List.getElem?_take_of_lt hkl, List.getElem?_drop, Array.getElem?_toList] at hu
          have hdm := Nat.div_add_mod k ks.length
          have hq : k / ks.length < len0 := Nat.div_lt_of_lt_mul (by rw [Nat.mul_comm]; exact hkl)
          have hr : k % ks.length < ks.length := Nat.mod_lt _ hpos
          have hrow := rowEq (k / ks.length) (by omega)
          have : ((c.toList.drop (a.off + k / ks.length * ks.length)).take ks.length)[k % ks.length]? = some u := by
            rw [List.getElem?_take_of_lt hr, List.getElem?_drop, Array.getElem?_toList, ← hu]
            congr 1
            rw [Nat.mul_comm] at hdm; omega
          obtain ⟨kk, hkk⟩ := hrow.get this
          obtain ⟨g1, g2, _⟩ := hkk.toV (ι := ι.add id (a.block, a.off)) (w := W)
          exact ⟨u, hu, g1, g2⟩
        · rw [hflat]; simp; omega
      · rw [hlenr]
        refine .slice id 0 len0 ks.length a m hl fun _ => ⟨a.block, a.off, c, e', f', Pl.add_same _ _ _, ?_, hb, by omega⟩
        cases a; simp_all
      · intro j hj
        exact ⟨Heap.set_ne _ _ hj, Pl.add_ne _ _ hj⟩
      · intro i x hx
        by_cases hi : i = id
        · subst hi
          rw [Heap.set_same] at hx; cases hx; rfl
        · rw [Heap.set_ne _ _ hi] at hx
          exact hro i x hx

theorem open_args : ∀ (ts : List TypeId) (pks : List PK) (i : Nat) (args : List Value) (ds : List (DataW HT)) (ps : List MemPlace), 0 < i → pkTs P ts = some pks →
    DataW.TrodAll enc P W 0 (fun _ => true) true ts args ds ps → (∀ (j : Nat) t v, ts[j]? = some t → args[j]? = some v → ∃ base, Value.okWide P W .any base t v) →
    ∃ (vs : List V) (ι : Pl) (H : Heap), VRs ι W vs args ∧ Rel ι H W ∧ (∀ id o, H id = some o → o.rw = false) ∧ (∀ j, j < i → H (2 * j) = none ∧ ι (2 * j) = none) ∧ Givens H i pks vs
  | [], pks, i, args, ds, ps, _, hp, h, _ => by
    simp only [pkTs] at hp; cases hp
    obtain ⟨rfl, _, _⟩ := trodAll_nil h
    refine ⟨[], fun id => if id % 2 = 1 then some (id / 2, 0) else none, fun _ => none, .nil, ⟨?_, ?_, ⟨0, fun id _ he => by simp [he]⟩, rfl, fun g => by simp [show (2 * g + 1) % 2 = 1 by omega]; omega⟩, ?_, fun j _ => ⟨rfl, by simp⟩, trivial⟩
    · intro _ _ h; cases h
    · intro _ _ _ _ _ _ _ h; cases h
    · intro _ _ h; cases h
  | t :: ts, pks, i, args, ds, ps, hi0, hp, h, hok => by
    simp only [pkTs] at hp
    split at hp
    · rename_i pk pks' h1 h2
      cases hp
      obtain ⟨v, vs', d, ds', p, q, rfl, rfl, rfl, ⟨fuel, hv⟩, hvs⟩ := trodAll_cons h
      obtain ⟨vs, ι, H, g1, g2, g3, g4, g5⟩ := open_args ts pks' (i + 1) vs' ds' q (Nat.succ_pos _) h2 hvs fun j t' v' ht hv => hok (j + 1) t' v' (by simpa using ht) (by simpa using hv)
      obtain ⟨base, hw⟩ := hok 0 t v rfl rfl
      have scal : ∀ k, FitU k v → pk = .one k → ∃ (vs : List V) (ι : Pl) (H : Heap), VRs ι W vs (v :: vs') ∧ Rel ι H W ∧ (∀ id o, H id = some o → o.rw = false) ∧ (∀ j, j < i → H (2 * j) = none ∧ ι (2 * j) = none) ∧ Givens H i (pk :: pks') vs := by
        rintro k hk rfl
        obtain ⟨a, _, b⟩ := hk.toV (ι := ι) (w := W)
        exact ⟨toV v :: vs, ι, H, .cons _ _ _ _ a g1, g2, g3, fun j hj => g4 j (by omega), b, g5⟩
      unfold pkT at h1
      split at h1
      · rename_i hu
        cases h1
        obtain ⟨b, rfl⟩ := okWide_bool hu hw
        exact scal .b ⟨b, rfl⟩ rfl
      · rename_i k hu
        cases h1
        obtain ⟨n, rfl⟩ := okWide_int hu hw
        obtain ⟨n', hc, _, hwf⟩ := DataW.trod_int hu hv
        simp [Value.cells] at hc
        subst hc
        exact scal (.i k) ⟨n, rfl, hwf⟩ rfl
      · rename_i hu
        cases h1
        obtain ⟨s, rfl⟩ := okWide_string hu hw
        obtain ⟨s', hc, _, hs⟩ := DataW.trod_string hu hv
        simp [Value.cells] at hc
        subst hc
        exact scal .s ⟨s, rfl, hs⟩ rfl
      · rename_i e hu
        split at h1
        · rename_i ks hk
          cases hb : Nat.beq (P.cellsOf e) ks.length && Nat.blt 0 ks.length with
          | false => rw [hb] at h1; cases h1
          | true =>
            rw [hb] at h1; cases h1
            simp only [Bool.and_eq_true] at hb
            have hsz := Nat.eq_of_beq_eq_true hb.1
            have hpos : 0 < ks.length := Nat.le_of_ble_eq_true hb.2
            obtain ⟨rs, y, ι', H', k1, k2, k3, k4, k5, k6, k7, k8⟩ := open_rows hu hk hsz hpos (okWide_slice hu hw) hv g2 g3 (2 * i) (by omega) (g4 i (by omega)).1 (g4 i (by omega)).2
            refine ⟨y :: vs, ι', H', .cons _ _ _ _ k5 (g1.mono k6 (Shp.refl W)), k4, k8, fun j hj => ?_, ⟨rs, k1, k2, k3⟩, g5.congr fun j hj => (k7 (2 * j) (by omega)).1⟩
            obtain ⟨a, b⟩ := k7 (2 * j) (by omega)
            rw [a, b]; exact g4 j (by omega)
        · cases h1
      · cases hag : isAggP P t with
        | false => rw [hag] at h1; cases h1
        | true =>
          rw [hag] at h1
          simp only [cond_true] at h1
          split at h1
          · rename_i ks hk
            cases h1
            have hf := trod_fits 20 _ _ _ _ _ hk hv
            obtain ⟨cs, rfl⟩ : ∃ cs, v = .agg cs := by
              unfold isAggP at hag
              unfold Value.okWide at hw
              split at hag
              · rename_i fs hu
                rw [hu] at hw
                obtain ⟨cs, h, _⟩ := hw
                exact ⟨cs, h⟩
              · rename_i n e hu
                rw [hu] at hw
                obtain ⟨cs, h, _⟩ := hw
                exact ⟨cs, h⟩
              · cases hag
            simp only [Value.cells] at hf
            obtain ⟨a, b, c⟩ := hf.toV (ι := ι) (w := W)
            refine ⟨.agg (cs.toList.map toV) :: vs, ι, H, .cons _ _ _ _ ?_ g1, g2, g3, fun j hj => g4 j (by omega), ⟨_, rfl, c⟩, g5⟩
            have := VR.agg (ι := ι) (w := W) _ _ a b
            exact this
          · cases h1
    · cases hp

theorem trodAll_below (hl : laidOutB P = true) {W' : World} (hb : Below W.heap.size W W') : ∀ {ts : List TypeId} {args : List Value} {ds : List (DataW HT)} {ps : List MemPlace}, (ts.all fun t => P.readableRec t && Nat.blt t P.types.size) = true →
    DataW.TrodAll enc P W 0 (fun _ => true) true ts args ds ps → DataW.TrodAll enc P W' 0 (fun b => decide (b < W.heap.size)) true ts args ds ps
  | [], args, ds, ps, _, h => by
    obtain ⟨rfl, rfl, rfl⟩ := trodAll_nil h
    exact trodAll_mk0
  | t :: ts, args, ds, ps, ht, h => by
    obtain ⟨v, vs', d, ds', p, q, rfl, rfl, rfl, hv, hvs⟩ := trodAll_cons h
    simp only [List.all_cons, Bool.and_eq_true] at ht
    refine trodAll_cons_mk (Below.trod hl ht.1.1 (Nat.le_of_ble_eq_true ht.1.2) hv hb ?_) (trodAll_below hl hb ht.2 hvs)
    obtain ⟨m, hm⟩ := hv
    exact DataW.trod_lt m _ _ _ hm

end
end Go.CM

namespace Go.CM

def methB (P : Program) (t : TypeId) (name : String) : Option (FuncId × Nat) :=
  match P.info? t with
  | some i => match i.methods.find? (·.name == name) with
    | some m => bif m.path.isEmpty then
        match m.func, P.underlying t with
        | some (f, true), some (.pointer _) => some (f, 0)
        | some (f, false), some (.pointer e) => match isAggT P e with
          | some false => some (f, 1)
          | some true => match sizeT P e with
            | some (n + 1) => some (f, 3 + n)
            | _ => none
          | none => none
        | some (f, false), some d => match d with
          | .pointer _ => none
          | _ => some (f, 2)
        | _, _ => none
      else none
    | none => none
  | none => none

section
variable {P : Program} {H : Heap} {t : TypeId} {name : String} {f : FuncId}

end
end Go.CM
