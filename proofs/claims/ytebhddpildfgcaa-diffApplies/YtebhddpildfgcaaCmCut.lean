/-
  A program logic over the model's calls, part 26: ways that meet again behind a switch; a row under a new name.
-/
import Derived.Test.YtebhddpildfgcaaCmWalk
namespace Go.CM
section
variable {P : Program} {env : Env} {H : Heap} {L N R : List Ob}

theorem kSeq_mono {Q Q' : Ex → Env → Heap → Prop} {c : C} (h : ∀ x env H, Q x env H → Q' x env H) : ∀ x env H, kSeq P c Q x env H → kSeq P c Q' x env H := by
  intro x env H hx
  cases x with
  | normal => exact C.mono h hx
  | exit j => exact h _ _ _ hx
  | ret => exact h _ _ _ hx
/-- What a slot set is, once a row may bear a new name. -/
def Nw (sl : List Nat) (I : List V → List Ob → Prop) (env : Env) (H : Heap) : Prop := Wkn env H (Nx sl (fun _ => I) (fun _ => True))
theorem kcutW {Q : Ex → Env → Heap → Prop} {c : C} {sl : List Nat} {I : List V → List Ob → Prop} (h2 : ∀ (vs : List V) (L : List Ob) (e : Env) (H : Heap), I vs L → Has H L → c.wp P Q (puts sl vs e) H) :
    ∀ x env H, kLoop (Nw sl I) Q x env H → kSeq P c Q x env H := by
  intro x env' H' hx
  refine kcut h2 x env' H' ?_
  cases x with
  | normal => exact Wkn.bind hx fun _ _ h => h
  | exit j => exact hx
  | ret => exact hx
theorem cutSB {Q : Ex → Env → Heap → Prop} {a b c : C} {id : Nat} (sl : List Nat) (I : List V → List Ob → Prop) (h1 : a.wp P (kSeq P b (kBlk id (kLoop (Nw sl I) Q))) env H)
    (h2 : ∀ (vs : List V) (L : List Ob) (e : Env) (H : Heap), I vs L → Has H L → c.wp P Q (puts sl vs e) H) : a.wp P (kSeq P b (kBlk id (kSeq P c Q))) env H :=
  C.mono (kSeq_mono (kBlk_mono (kcutW h2))) h1
theorem Nw.mk {sl : List Nat} {I : List V → List Ob → Prop} (h : Nx sl (fun _ => I) (fun _ => True) env H) : Nw sl I env H := .here h
/-- A slice's row under a new name, from the slice's first cell on. -/
theorem Nw.base {sl : List Nat} {I : List V → List Ob → Prop} {L' : Nat → List Ob} {id off len e : Nat} {cs cs' : List V} (s : Nat) (hh : Has H L) (hs : env s = .slice id off len e)
    (hu : ∀ id', Upd (id, .cells true cs) [(id', .cells true cs')] L (L' id')) (hd : cs.drop off = cs') (ho : off ≤ cs.length) (hc : cs ≠ [])
    (k : ∀ id' H', Has H' (L' id') → Nw sl I (env.put (some s) (.slice id' 0 len e)) H') : Nw sl I env H := by
  subst hd
  have h0 := hh.ne0 (hu 0).at hc
  refine Wkn.base hs (hh.get (hu 0).at h0) ho fun id' h0' hid => k id' _ (hh.move h0 h0' (hu id') ?_)
  by_cases h : id' = id
  · subst h; exact Heap.del_same _ _
  · rw [Heap.del_ne _ h]; exact hid
end
end Go.CM
