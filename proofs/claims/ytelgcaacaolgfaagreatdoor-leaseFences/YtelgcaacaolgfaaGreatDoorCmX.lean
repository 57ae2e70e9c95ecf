/-
  A program logic over the model's calls: its texts CmBnd, joined.
-/
import Derived.Test.YtelgcaacaolgfaaGreatDoorCmE
namespace Go.CM

theorem weightsAll_mem {H : Type} {P : Program} {e : TypeId} : ∀ {ds : List (DataW H)} {d : DataW H} {n : Nat}, d ∈ ds → n ∈ d.weights P e → n ∈ DataW.weightsAll P e ds
  | d0 :: ds, d, n, hd, hn => by
    simp only [DataW.weightsAll, List.mem_append]
    rcases List.mem_cons.1 hd with rfl | hd
    · exact .inl hn
    · exact .inr (weightsAll_mem hd hn)
theorem weightsEach_mem {H : Type} {P : Program} : ∀ {ts : List TypeId} {ds : List (DataW H)} {i : Nat} {t : TypeId} {d : DataW H} {n : Nat}, ts[i]? = some t → ds[i]? = some d → n ∈ d.weights P t → n ∈ DataW.weightsEach P ts ds
  | [], _, i, _, _, _, ht, _, _ => by simp at ht
  | _ :: _, [], i, _, _, _, _, hd, _ => by simp at hd
  | t0 :: ts, d0 :: ds, 0, t, d, n, ht, hd, hn => by
    simp at ht hd
    subst ht hd
    simp only [DataW.weightsEach, List.mem_append]
    exact .inl hn
  | t0 :: ts, d0 :: ds, i + 1, t, d, n, ht, hd, hn => by
    simp only [DataW.weightsEach, List.mem_append]
    exact .inr (weightsEach_mem (i := i) (by simpa using ht) (by simpa using hd) hn)
section
open Go.ChangeShapes Go.WideShapes
variable {H : Type} {enc : TypeId × Value → H} {P : Program} {w : World} {base : Nat} {spare : Nat → Bool} {held : Bool}
/-- All texts among an input's cells are no longer than what the sizes allow. -/
theorem trod_strs (B : Nat) : ∀ (d fuel : Nat) (t : TypeId) (cs : List Value) (x : DataW H × List MemPlace) (ks : List CK), cellsT P d t = some ks →
    DataW.trod enc P w base spare held fuel t cs = some x → (∀ n ∈ x.1.weights P t, n ≤ B) → ∀ s : ByteArray, Value.string s ∈ cs → s.size ≤ B := by
  intro d
  induction d with
  | zero => intro fuel t cs x ks hk; simp [cellsT] at hk
  | succ d ih =>
    intro fuel t cs x ks hk h hwt s hs
    simp only [cellsT] at hk
    split at hk
    · rename_i ht
      obtain ⟨b, rfl, _⟩ := DataW.trod_bool ht h
      simp at hs
    · rename_i k ht
      obtain ⟨n, rfl, _, hw⟩ := DataW.trod_int ht h
      simp at hs
    · rename_i ht
      obtain ⟨s', rfl, rfl, hw⟩ := DataW.trod_string ht h
      simp only [List.mem_singleton, Value.string.injEq] at hs
      subst hs
      have := hwt s.data.toList.length (by simp [DataW.weights])
      rwa [Array.length_toList] at this
    · rename_i fs ht
      split at hk
      · rename_i kk hf
        cases hb : Nat.beq (P.cellsOf t) kk.length with
        | false => rw [hb] at hk; cases hk
        | true =>
          rw [hb] at hk; cases hk
          have hsz := Nat.eq_of_beq_eq_true hb
          obtain ⟨xs, n, rfl, rfl, hlen, hxl, hx⟩ := DataW.trod_struct ht h
          have hx' : ∀ f ∈ fs.toList, ∃ y, DataW.trod enc P w base spare held n f.type ((cs.drop f.offset).take (P.cellsOf f.type)) = some y ∧ ∀ m ∈ y.1.weights P f.type, m ≤ B := by
            intro f hfm
            obtain ⟨i, hi⟩ := List.getElem?_of_mem hfm
            have hi' : fs[i]? = some f := by rw [← Array.getElem?_toList]; exact hi
            have := hx i f hi'
            have hlt : i < xs.length := by
              have := (List.getElem?_eq_some_iff.1 hi).1
              simp at this; omega
            rw [List.getElem?_eq_getElem hlt] at this
            refine ⟨_, this, fun m hm => hwt m ?_⟩
            simp only [DataW.weights, ht]
            exact weightsEach_mem (i := i) (t := f.type) (d := xs[i].1) (by rw [List.getElem?_map, hi]; rfl) (by rw [List.getElem?_map, List.getElem?_eq_getElem hlt]; rfl) hm
          have key : ∀ (l : List Field) (off : Nat) (kk : List CK), cellsF P (cellsT P d) off l = some kk → (∀ f ∈ l, ∃ y, DataW.trod enc P w base spare held n f.type ((cs.drop f.offset).take (P.cellsOf f.type)) = some y ∧ ∀ m ∈ y.1.weights P f.type, m ≤ B) →
              cs.length = off + kk.length → Value.string s ∈ cs.drop off → s.size ≤ B := by
            intro l
            induction l with
            | nil =>
              intro off kk hk _ hl hs
              simp only [cellsF] at hk; cases hk
              rw [List.drop_of_length_le (by simpa using Nat.le_of_eq hl)] at hs
              cases hs
            | cons f l ihl =>
              intro off kk hk hy hl hs
              simp only [cellsF] at hk
              split at hk
              · rename_i k1 hk1
                cases hb : Nat.beq f.offset off && Nat.beq (P.cellsOf f.type) k1.length with
                | false => rw [hb] at hk; cases hk
                | true =>
                  rw [hb] at hk
                  simp only [Bool.and_eq_true] at hb
                  have ho := Nat.eq_of_beq_eq_true hb.1
                  have hc := Nat.eq_of_beq_eq_true hb.2
                  simp only [cond_true] at hk
                  split at hk
                  · rename_i k2 hk2
                    cases hk
                    obtain ⟨y, hy1, hy2⟩ := hy f (by simp)
                    rw [ho, hc] at hy1
                    rw [← List.take_append_drop k1.length (cs.drop off), List.drop_drop] at hs
                    rcases List.mem_append.1 hs with hs | hs
                    · exact ih _ _ _ _ _ hk1 hy1 hy2 s hs
                    · exact ihl (off + k1.length) k2 hk2 (fun f hf => hy f (by simp [hf])) (by simp at hl; omega) hs
                  · cases hk
              · cases hk
          exact key fs.toList 0 _ hf hx' (by omega) (by simpa using hs)
      · cases hk
    · rename_i n e ht
      split at hk
      · rename_i kk hke
        cases hb : Nat.beq (P.cellsOf t) (n * kk.length) && Nat.beq (P.cellsOf e) kk.length with
        | false => rw [hb] at hk; cases hk
        | true =>
          rw [hb] at hk; cases hk
          simp only [Bool.and_eq_true] at hb
          have h1 := Nat.eq_of_beq_eq_true hb.1
          have h2 := Nat.eq_of_beq_eq_true hb.2
          cases fuel with
          | zero => simp [DataW.trod] at h
          | succ fuel =>
            unfold DataW.trod at h
            rw [ht] at h
            simp only at h
            split at h
            · rename_i hl
              obtain ⟨xs, hp, rfl⟩ := Option.map_eq_some_iff.1 h
              have hlen := mapM_some_length hp
              simp at hlen
              obtain ⟨q, hq⟩ := List.getElem?_of_mem hs
              have hql := (List.getElem?_eq_some_iff.1 hq).1
              have hk0 : 0 < kk.length := by
                rcases Nat.eq_zero_or_pos kk.length with h0 | h0
                · rw [h0] at h1; omega
                · exact h0
              have hi : q / kk.length < n := Nat.div_lt_of_lt_mul (by rw [Nat.mul_comm]; omega)
              have := mapM_some_get hp (q / kk.length) (q / kk.length) (by simp [hi])
              rw [List.getElem?_eq_getElem (by omega)] at this
              refine ih _ _ _ _ _ hke this (fun m hm => hwt m ?_) s ?_
              · simp only [DataW.weights, ht]
                exact weightsAll_mem (List.mem_map.2 ⟨_, List.getElem_mem _, rfl⟩) hm
              · have hdm := Nat.div_add_mod q kk.length
                refine List.mem_of_getElem? (i := q % kk.length) ?_
                rw [h2, List.getElem?_take_of_lt (Nat.mod_lt _ hk0), List.getElem?_drop, ← hq]
                congr 1
                rw [Nat.mul_comm] at hdm
                exact hdm
            · cases h
      · cases hk
    · cases hk
end
def BndV (B : Nat) : V → Prop
  | .agg cs => ∀ l : List UInt8, V.str l ∈ cs → l.length ≤ B
  | _ => True
def Bnds (B : Nat) : List PK → List V → Prop
  | .agg _ :: ps, v :: vs => BndV B v ∧ Bnds B ps vs
  | _ :: ps, _ :: vs => Bnds B ps vs
  | _, _ => True
section
open Go.ChangeShapes Go.WideShapes Go.ChangeAt Go.RowKit
variable {HT : Type} {enc : TypeId × Value → HT} {P : Program} {W : World}
theorem VRs.str_mem {ι : Pl} {w : World} : ∀ {vs : List V} {us : List Value} {l : List UInt8}, VRs ι w vs us → V.str l ∈ vs → ∃ s : ByteArray, Value.string s ∈ us ∧ l = s.data.toList
  | v :: vs, _, l, h, hm => by
    cases h with
    | cons _ u _ us hv t =>
      rcases List.mem_cons.1 hm with rfl | hm
      · cases hv with
        | str s => exact ⟨s, by simp, rfl⟩
      · obtain ⟨s, h1, h2⟩ := VRs.str_mem t hm
        exact ⟨s, by simp [h1], h2⟩
theorem args_bnd (B : Nat) {ι : Pl} : ∀ (ts : List TypeId) (pks : List PK) (args : List Value) (ds : List (DataW HT)) (ps : List MemPlace) (vs : List V), pkTs P ts = some pks →
    DataW.TrodAll enc P W 0 (fun _ => true) true ts args ds ps → (∀ n ∈ DataW.weightsEach P ts ds, n ≤ B) → VRs ι W vs args → Bnds B pks vs
  | [], pks, args, ds, ps, vs, hp, h, _, _ => by
    simp only [pkTs] at hp; cases hp
    simp [Bnds]
  | t :: ts, pks, args, ds, ps, vs, hp, h, hw, hv => by
    simp only [pkTs] at hp
    split at hp
    · rename_i pk pks' h1 h2
      cases hp
      obtain ⟨v, vs', d, ds', p, q, rfl, rfl, rfl, ⟨fuel, ht⟩, hvs⟩ := trodAll_cons h
      cases hv with
      | cons x _ xs _ hx hxs =>
        have ih := args_bnd B ts pks' vs' ds' q xs h2 hvs (fun n hn => hw n (by simp only [DataW.weightsEach, List.mem_append]; exact .inr hn)) hxs
        cases pk with
        | one k => exact ih
        | rows ks => exact ih
        | agg ks =>
          refine ⟨?_, ih⟩
          have hk : cellsT P 20 t = some ks := by
            unfold pkT at h1
            split at h1
            · cases h1
            · cases h1
            · cases h1
            · split at h1
              · cases hb : (Nat.beq (P.cellsOf _) _ && Nat.blt 0 _) with
                | true => rw [hb] at h1; cases h1
                | false => rw [hb] at h1; cases h1
              · cases h1
            · cases hb : isAggP P t with
              | false => rw [hb] at h1; cases h1
              | true =>
                rw [hb] at h1
                simp only [cond_true] at h1
                split at h1
                · rename_i hc; cases h1; exact hc
                · cases h1
          cases x with
          | agg cs =>
            intro l hl
            cases hx with
            | agg _ us hu ho =>
              obtain ⟨s, hs, rfl⟩ := hu.str_mem hl
              have := trod_strs B 20 fuel t _ _ ks hk ht (fun n hn => hw n (by simp only [DataW.weightsEach, List.mem_append]; exact .inl hn)) s (by simpa [Value.cells] using hs)
              rwa [Array.length_toList]
          | _ => trivial
    · cases hp
/-- .. with the texts of its structs bounded. -/
theorem law_callsB (B : Nat) {f : FuncId} {ts : List TypeId} {pks : List PK} {args : Array Value} {ds : List (DataW HT)} {ps : List MemPlace} (hp : pkTs P ts = some pks)
    (hA : DataW.TrodAll enc P W 0 (fun _ => true) true ts args.toList ds ps) (hok : ∀ (j : Nat) t v, ts[j]? = some t → args[j]? = some v → ∃ base, Value.okWide P W .any base t v) (hsz : ∀ n ∈ DataW.weightsEach P ts ds, n ≤ B)
    (hC : ∀ (vs : List V) (H : Heap), Givens H 1 pks vs → Bnds B pks vs → (∀ id o, H id = some o → o.rw = false) → CallsC P f vs H fun v _ => v = .bool true) :
    Calls P f args W fun e W' => e = .returned (.bool true) ∧ Below W.heap.size W W' := by
  obtain ⟨vs, ι, H, h1, h2, h3, _, h5⟩ := open_args ts pks 1 args.toList ds ps Nat.one_pos hp hA fun j t v ht hv => hok j t v ht (by simpa using hv)
  have hb := args_bnd B ts pks args.toList ds ps vs hp hA hsz h1
  refine ((hC vs H h5 hb h3).2 ι W args.toList h2 h1).mono ?_
  rintro e W' ⟨ι', H', v, u, rfl, hv, hR, hX, rfl⟩
  cases hv
  refine ⟨rfl, hX.os, hX.tape.eq, hX.output, hX.size, fun k hk => hX.frame k hk ?_⟩
  rintro ⟨id, o, off, a, b, _⟩
  rw [h3 id o a] at b; cases b
end
end Go.CM
