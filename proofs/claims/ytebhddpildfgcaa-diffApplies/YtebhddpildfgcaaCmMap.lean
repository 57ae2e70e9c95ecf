/-
  A program logic over the model's calls, part 27: entries of maps that are written where they stand; rows cleared.
-/
import Derived.Test.YtebhddpildfgcaaCmCut
namespace Go.CM
/-- The rows of an input beside others. -/
theorem givenRowsA {H : Heap} {i sz : Nat} {α : Type} {enc : α → List V} {l : List α} {v : V} (h : RowsAt H i sz (l.map enc) v) : ∃ t, v = .slice t 0 l.length sz ∧ (t = 0 ∨ t = i) ∧ ∀ L, Has H L → (∀ x ∈ L, x.1 = 0 ∨ x.1 ≠ i) → Has H ((t, .cells false (l.flatMap enc)) :: L) := by
  obtain ⟨s, h1, h2⟩ := h
  rw [List.length_map] at h1
  refine ⟨s, h1, ?_⟩
  rcases h2 with ⟨rfl, h2⟩ | ⟨rfl, h0, h2⟩
  · have : l = [] := by simpa using h2
    subst this
    exact ⟨.inl rfl, fun L hL _ => hL.ghost false⟩
  · refine ⟨.inr rfl, fun L hL hn => hL.cons h0 (by rw [h2]; rfl) fun hm => ?_⟩
    obtain ⟨h0', x, hx, e⟩ := mem_ids.1 hm
    rcases hn x hx with h3 | h3
    · exact h0' (e ▸ h3)
    · exact h3 e
section
variable {P : Program} {env : Env} {H : Heap} {L : List Ob} {K : Env → Heap → Prop} {d : Option Nat} {is : List I}

/-- The ways behind some operations and a condition meet again. -/
theorem cutO {Q : Ex → Env → Heap → Prop} {b c : C} {l : List I} (sl : List Nat) (I : List V → List Ob → Prop) (h1 : wpOps P l env H (kSeq P b (kLoop (Nx sl (fun _ => I) (fun _ => True)) Q) .normal))
    (h2 : ∀ (vs : List V) (L : List Ob) (e : Env) (H : Heap), I vs L → Has H L → c.wp P Q (puts sl vs e) H) : wpOps P l env H (kSeq P b (kSeq P c Q) .normal) :=
  wpOps_mono (fun e H h => kSeq_mono (kcut h2) .normal e H h) h1
theorem cutBW {Q : Ex → Env → Heap → Prop} {a c : C} {id : Nat} (sl : List Nat) (I : List V → List Ob → Prop) (h1 : a.wp P (kBlk id (kLoop (Nw sl I) Q)) env H)
    (h2 : ∀ (vs : List V) (L : List Ob) (e : Env) (H : Heap), I vs L → Has H L → c.wp P Q (puts sl vs e) H) : a.wp P (kBlk id (kSeq P c Q)) env H := C.mono (kBlk_mono (kcutW h2)) h1
/-- m[k] is there: its place and value. -/
theorem wps_mentF (hh : Has H L) {kt : KT} {z : V} {m y : X} {id i : Nat} {es : List (V × V)} {e : V × V} {L' : Int → List Ob} (hm : m.ev env = .map id) (hz : z.isTup = false) (hf : findI kt (y.ev env) es = some (some i)) (he : es[i]? = some e)
    (hu : ∀ n, Upd (id, .map es) [(id, .mapE (es.set i (y.ev env, e.2)) i n)] L (L' n))
    (k : ∀ n H', Has H' (L' n) → wpOps P is (env.put d (.tup [e.2, .int .i64 n])) H' K) : wpOps P (⟨d, .ef (.ment kt z m y), none, .no⟩ :: is) env H K := by
  have h1 := hh.getm (hu 0).at
  have h0 : id ≠ 0 := fun e => by obtain ⟨b', h1⟩ := hh.zero _ (hu 0).at e; cases h1
  refine ⟨id, es, some i, hm, h1, hz, hf, fun n e' he' => ⟨trivial, ?_⟩⟩
  rw [he] at he'; cases he'
  exact k n _ (hh.set h0 (hu n))
/-- m[k] is not there: it is the zero value now. -/
theorem wps_mentN (hh : Has H L) {kt : KT} {z : V} {m y : X} {id : Nat} {es : List (V × V)} {L' : Int → List Ob} (hm : m.ev env = .map id) (hz : z.isTup = false) (hf : findI kt (y.ev env) es = some none)
    (hu : ∀ n, Upd (id, .map es) [(id, .mapE (es ++ [(y.ev env, z)]) es.length n)] L (L' n))
    (k : ∀ n H', Has H' (L' n) → wpOps P is (env.put d (.tup [z, .int .i64 n])) H' K) : wpOps P (⟨d, .ef (.ment kt z m y), none, .no⟩ :: is) env H K := by
  have h1 := hh.getm (hu 0).at
  have h0 : id ≠ 0 := fun e => by obtain ⟨b', h1⟩ := hh.zero _ (hu 0).at e; cases h1
  exact ⟨id, es, none, hm, h1, hz, hf, fun n => ⟨trivial, k n _ (hh.set h0 (hu n))⟩⟩
/-- The entry's value is written. -/
theorem wps_mset (hh : Has H L) {m s v : X} {id i : Nat} {n : Int} {es es' : List (V × V)} {e : V × V} {L' : List Ob} (hm : m.ev env = .map id) (hs : s.ev env = .int .i64 n) (he : es[i]? = some e) (ht : (v.ev env).isTup = false) (hes : es.set i (e.1, v.ev env) = es')
    (hu : Upd (id, .mapE es i n) [(id, .map es')] L L') (k : ∀ H', Has H' L' → wpOps P is (env.put d V.undef) H' K) : wpOps P (⟨d, .ef (.mset m s v), none, .no⟩ :: is) env H K := by
  subst hes
  have h0 : id ≠ 0 := fun e => by obtain ⟨b', h1⟩ := hh.zero _ hu.at e; cases h1
  exact ⟨id, es, i, n, e, hm, hh.get hu.at h0, hs, he, ht, ⟨trivial, k _ (hh.set h0 hu)⟩⟩
/-- A row is cleared, or a part of one. -/
theorem wps_clr (hh : Has H L) {esz : Nat} {z : List V} {y : X} {id off len : Nat} {cs cs' : List V} {L' : List Ob} (hy : y.ev env = .slice id off len esz) (hfit : off + len * esz ≤ cs.length) (hc : cs ≠ []) (hs : splice cs off (rep z len) = cs')
    (hu : Upd (id, .cells true cs) [(id, .cells true cs')] L L') (k : ∀ H', Has H' L' → wpOps P is (env.put d V.undef) H' K) : wpOps P (⟨d, .ef (.clr esz z y), none, .no⟩ :: is) env H K := by
  subst hs
  have h0 := hh.ne0 hu.at hc
  exact .inr (.inr (.inl ⟨id, off, len, cs, hy, hh.get hu.at h0, hfit, ⟨trivial, k _ (hh.set h0 hu)⟩⟩))
/-- .. that has nothing. -/
theorem wps_clr0 {esz : Nat} {z : List V} {y : X} {id off e : Nat} {x : Kx} (hy : y.ev env = .slice id off 0 e) (k : wpOps P is (env.put d V.undef) H K) : wpOps P (⟨d, .ef (.clr esz z y), none, x⟩ :: is) env H K :=
  .inr (.inl ⟨id, off, e, hy, ⟨Kx.refl, k⟩⟩)
theorem wps_clrN {esz : Nat} {z : List V} {y : X} {x : Kx} (hy : y.ev env = .nils) (k : wpOps P is (env.put d V.undef) H K) : wpOps P (⟨d, .ef (.clr esz z y), none, x⟩ :: is) env H K :=
  .inl ⟨hy, ⟨Kx.refl, k⟩⟩
end
end Go.CM
