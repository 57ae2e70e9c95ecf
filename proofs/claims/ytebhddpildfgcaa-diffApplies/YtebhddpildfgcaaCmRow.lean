/-
  A program logic over the model's calls, part 19: from a given row's inputs to abstract values, and back.
-/
import Derived.Test.YtebhddpildfgcaaCmFun
import Derived.Deep.Slices
import Derived.WalkKit
import Derived.ProofKit
import Derived.OpenShut
import Derived.ShutString
import Derived.ChangeOld
import Derived.Below
import Derived.Carry
import Derived.SizedLaws
import Derived.WideShapes
namespace Go.CM
open Go.ChangeShapes Go.WideShapes

/-- What a cell of an input may hold. -/
inductive CK where
  | b | i (k : IntKind) | s
  deriving Inhabited

def Fit : CK → V → Prop
  | .b, v => ∃ b, v = .bool b
  | .i k, v => ∃ n, v = .int k n ∧ (Lit.int k n).wf = true
  | .s, v => ∃ s : List UInt8, v = .str s ∧ s.length ≤ maxLen
def Fits : List CK → List V → Prop
  | [], [] => True
  | k :: ks, v :: vs => Fit k v ∧ Fits ks vs
  | _, _ => False

def toV : Value → V
  | .bool b => .bool b
  | .int k n => .int k n
  | .string s => .str s.data.toList
  | _ => V.undef

/-- The same, of the model's values. -/
def FitU : CK → Value → Prop
  | .b, u => ∃ b, u = .bool b
  | .i k, u => ∃ n, u = .int k n ∧ (Lit.int k n).wf = true
  | .s, u => ∃ s : ByteArray, u = .string s ∧ s.size ≤ maxLen
def FitsU : List CK → List Value → Prop
  | [], [] => True
  | k :: ks, u :: us => FitU k u ∧ FitsU ks us
  | _, _ => False

theorem FitU.toV {ι : Pl} {w : World} {k : CK} {u : Value} (h : FitU k u) : VR ι w (toV u) u ∧ one u = true ∧ Fit k (CM.toV u) := by
  cases k with
  | b => obtain ⟨b, rfl⟩ := h; exact ⟨.bool b, rfl, b, rfl⟩
  | i k => obtain ⟨n, rfl, h⟩ := h; exact ⟨.int k n, rfl, n, rfl, h⟩
  | s => obtain ⟨s, rfl, h⟩ := h; exact ⟨.str s, rfl, _, rfl, by simpa using h⟩

theorem FitsU.length {ks : List CK} {us : List Value} (h : FitsU ks us) : us.length = ks.length := by
  induction ks generalizing us with
  | nil => cases us <;> simp_all [FitsU]
  | cons k ks ih => cases us with
    | nil => simp [FitsU] at h
    | cons u us => simp [ih h.2]

theorem FitsU.append {ks ks' : List CK} {us us' : List Value} (h : FitsU ks us) (h' : FitsU ks' us') : FitsU (ks ++ ks') (us ++ us') := by
  induction ks generalizing us with
  | nil => cases us <;> simp_all [FitsU]
  | cons k ks ih => cases us with
    | nil => simp [FitsU] at h
    | cons u us => exact ⟨h.1, ih h.2⟩

theorem FitsU.get {ks : List CK} {us : List Value} (h : FitsU ks us) {j : Nat} {u : Value} (hu : us[j]? = some u) : ∃ k, FitU k u := by
  induction ks generalizing us j with
  | nil => cases us <;> simp_all [FitsU]
  | cons k ks ih => cases us with
    | nil => simp [FitsU] at h
    | cons x us => cases j with
      | zero => simp at hu; subst hu; exact ⟨k, h.1⟩
      | succ j => exact ih h.2 (by simpa using hu)

theorem FitsU.toV {ι : Pl} {w : World} {ks : List CK} {us : List Value} (h : FitsU ks us) : VRs ι w (us.map toV) us ∧ us.all one = true ∧ Fits ks (us.map CM.toV) := by
  induction ks generalizing us with
  | nil => cases us with
    | nil => exact ⟨.nil, rfl, trivial⟩
    | cons _ _ => simp [FitsU] at h
  | cons k ks ih => cases us with
    | nil => simp [FitsU] at h
    | cons u us =>
      obtain ⟨a, b, c⟩ := h.1.toV (ι := ι) (w := w)
      obtain ⟨d, e, f⟩ := ih h.2
      exact ⟨.cons _ _ _ _ a d, by simp [b, e], c, f⟩

def cellsF (P : Program) (rec : TypeId → Option (List CK)) : Nat → List Field → Option (List CK)
  | _, [] => some []
  | off, f :: fs => match rec f.type with
    | some ks => bif Nat.beq f.offset off && Nat.beq (P.cellsOf f.type) ks.length then
        match cellsF P rec (off + ks.length) fs with
        | some r => some (ks ++ r)
        | none => none
      else none
    | none => none

def repK (ks : List CK) : Nat → List CK
  | 0 => []
  | n + 1 => ks ++ repK ks n

/-- The cells of a type that has scalars alone. -/
def cellsT (P : Program) : Nat → TypeId → Option (List CK)
  | 0, _ => none
  | d + 1, t => match P.underlying t with
    | some .bool => some [.b]
    | some (.int k) => some [.i k]
    | some .string => some [.s]
    | some (.struct fs) => match cellsF P (cellsT P d) 0 fs.toList with
      | some ks => bif Nat.beq (P.cellsOf t) ks.length then some ks else none
      | none => none
    | some (.array n e) => match cellsT P d e with
      | some ks => bif Nat.beq (P.cellsOf t) (n * ks.length) && Nat.beq (P.cellsOf e) ks.length then some (repK ks n) else none
      | none => none
    | _ => none

theorem repK_fits {ks : List CK} : ∀ (n : Nat) (us : List Value), us.length = n * ks.length → (∀ i, i < n → FitsU ks ((us.drop (i * ks.length)).take ks.length)) → FitsU (repK ks n) us
  | 0, us, h, _ => by
    have : us = [] := List.eq_nil_of_length_eq_zero (by simpa using h)
    subst this; trivial
  | n + 1, us, h, hi => by
    have h0 := hi 0 (by omega)
    simp at h0
    rw [← List.take_append_drop ks.length us]
    refine h0.append (repK_fits n _ (by rw [List.length_drop, h, Nat.succ_mul]; omega) fun i hin => ?_)
    have := hi (i + 1) (by omega)
    rw [List.drop_drop]
    rw [Nat.succ_mul, Nat.add_comm] at this
    exact this

section
variable {H : Type} {enc : TypeId × Value → H} {P : Program} {w : World} {base : Nat} {spare : Nat → Bool} {held : Bool}

theorem trod_fits : ∀ (d fuel : Nat) (t : TypeId) (cs : List Value) (x : DataW H × List MemPlace) (ks : List CK), cellsT P d t = some ks →
    DataW.trod enc P w base spare held fuel t cs = some x → FitsU ks cs := by
  intro d
  induction d with
  | zero => intro fuel t cs x ks hk; simp [cellsT] at hk
  | succ d ih =>
    intro fuel t cs x ks hk h
    simp only [cellsT] at hk
    split at hk
    · rename_i ht
      cases hk
      obtain ⟨b, rfl, _⟩ := DataW.trod_bool ht h
      exact ⟨⟨b, rfl⟩, trivial⟩
    · rename_i k ht
      cases hk
      obtain ⟨n, rfl, _, hw⟩ := DataW.trod_int ht h
      exact ⟨⟨n, rfl, hw⟩, trivial⟩
    · rename_i ht
      cases hk
      obtain ⟨s, rfl, _, hw⟩ := DataW.trod_string ht h
      exact ⟨⟨s, rfl, hw⟩, trivial⟩
    · rename_i fs ht
      split at hk
      · rename_i kk hf
        cases hb : Nat.beq (P.cellsOf t) kk.length with
        | false => rw [hb] at hk; cases hk
        | true =>
          rw [hb] at hk; cases hk
          have hsz := Nat.eq_of_beq_eq_true hb
          obtain ⟨xs, n, rfl, _, hlen, _, hx⟩ := DataW.trod_struct ht h
          have hx' : ∀ f ∈ fs.toList, ∃ y, DataW.trod enc P w base spare held n f.type ((cs.drop f.offset).take (P.cellsOf f.type)) = some y := by
            intro f hfm
            obtain ⟨i, hi⟩ := List.getElem?_of_mem hfm
            have hi' : fs[i]? = some f := by rw [← Array.getElem?_toList]; exact hi
            have := hx i f hi'
            have hlt : i < xs.length := by
              have := (List.getElem?_eq_some_iff.1 hi).1
              simp at this; omega
            rw [List.getElem?_eq_getElem hlt] at this
            exact ⟨_, this⟩
          have key : ∀ (l : List Field) (off : Nat) (kk : List CK), cellsF P (cellsT P d) off l = some kk → (∀ f ∈ l, ∃ y, DataW.trod enc P w base spare held n f.type ((cs.drop f.offset).take (P.cellsOf f.type)) = some y) →
              cs.length = off + kk.length → FitsU kk (cs.drop off) := by
            intro l
            induction l with
            | nil =>
              intro off kk hk _ hl
              simp only [cellsF] at hk; cases hk
              rw [List.drop_of_length_le (by simpa using Nat.le_of_eq hl)]
              trivial
            | cons f l ihl =>
              intro off kk hk hy hl
              simp only [cellsF] at hk
              split at hk
              · rename_i k1 hk1
                cases hb : Nat.beq f.offset off && Nat.beq (P.cellsOf f.type) k1.length with
                | false => rw [hb] at hk; cases hk
                | true =>
                  rw [hb] at hk
                  simp only [Bool.and_eq_true] at hb
                  have ho := Nat.eq_of_beq_eq_true hb.1
                  have hc := Nat.eq_of_beq_eq_true hb.2
                  simp only [cond_true] at hk
                  split at hk
                  · rename_i k2 hk2
                    cases hk
                    obtain ⟨y, hy1⟩ := hy f (by simp)
                    rw [ho, hc] at hy1
                    have h1 := ih _ _ _ _ _ hk1 hy1
                    have h2 := ihl (off + k1.length) k2 hk2 (fun f hf => hy f (by simp [hf])) (by simp at hl; omega)
                    rw [← List.take_append_drop k1.length (cs.drop off), List.drop_drop]
                    exact h1.append h2
                  · cases hk
              · cases hk
          have := key fs.toList 0 _ hf hx' (by omega)
          simpa using this
      · cases hk
    · rename_i n e ht
      split at hk
      · rename_i kk hke
        cases hb : Nat.beq (P.cellsOf t) (n * kk.length) && Nat.beq (P.cellsOf e) kk.length with
        | false => rw [hb] at hk; cases hk
        | true =>
          rw [hb] at hk; cases hk
          simp only [Bool.and_eq_true] at hb
          have h1 := Nat.eq_of_beq_eq_true hb.1
          have h2 := Nat.eq_of_beq_eq_true hb.2
          cases fuel with
          | zero => simp [DataW.trod] at h
          | succ fuel =>
            unfold DataW.trod at h
            rw [ht] at h
            simp only at h
            split at h
            · rename_i hl
              obtain ⟨xs, hp, _⟩ := Option.map_eq_some_iff.1 h
              refine repK_fits n cs (by rw [hl, h1]) fun i hi => ?_
              have hlen := mapM_some_length hp
              simp at hlen
              have := mapM_some_get hp i i (by simp [hi])
              rw [List.getElem?_eq_getElem (by omega)] at this
              rw [← h2]
              exact ih _ _ _ _ _ hke this
            · cases h
      · cases hk
    · cases hk

end
end Go.CM
