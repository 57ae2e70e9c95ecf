/-
  Digests: the sum.
-/
import Derived.Test.YtelgcaacaolgfaaDoorShaE
namespace Go.Proofs.YtelgcaacaolgfaaDoor
open Go Go.CM
set_option maxRecDepth 100000
set_option maxHeartbeats 4000000

def w4B (w : Wd) : List UInt8 := [bWd (w >>> 24), bWd (w >>> 16), bWd (w >>> 8), bWd w]
def outB (l : List Wd) : List UInt8 := l.flatMap w4B
theorem outB_len : ∀ l : List Wd, (outB l).length = 4 * l.length
  | [] => rfl
  | w :: l => by
    have := outB_len l
    unfold outB at *
    rw [List.flatMap_cons, List.length_append, List.length_cons, this]
    show 4 + _ = _
    omega
theorem outB_next {l : List Wd} {i : Nat} (h : i < l.length) : outB (l.take (i + 1)) = outB (l.take i) ++ w4B (nth l i) := by
  rw [take_getD h, outB, outB, List.flatMap_append, List.flatMap_cons, List.flatMap_nil, List.append_nil]
theorem eat_len : ∀ {v : List Wd} {r : List UInt8}, v.length = 8 → (eat v r).1.length = 8 := by
  intro v r
  induction v, r using eat.induct with
  | case1 v r h ih => intro hv; rw [eat_more h]; exact ih (stepL_len hv _)
  | case2 v r h => intro hv; rw [eat_end (by omega)]; exact hv
theorem wds_map : ∀ l : List Wd, l.flatMap wdC = l.map wv
  | [] => rfl
  | w :: l => by rw [List.flatMap_cons, wds_map l]; rfl
theorem wds_get {l : List Wd} {i : Nat} (h : i < l.length) : (l.flatMap wdC)[i]? = some (wv (nth l i)) := by rw [wds_map, List.getElem?_map, getD_some h]; rfl
theorem hsum_prog (h : Nat) (v : List Wd) (r : List UInt8) (n : Nat) (hv : v.length = 8) (hr : r.length = n % 64) (hn : n ≤ 10000000) : CallsR Tryd.prog nsha_Hash_Sum [.ptr h 0] [(h, .cells true (hO v r n))] fun u => u = .str (outB (eat v (r ++ endL n)).1) := by
  have he := hend_prog h v r n hr (by omega)
  have hel : (endL n).length ≤ 100 := by
    have hzl : zrs n < 64 := Nat.mod_lt _ (by decide)
    simp [endL, be8]
    omega
  unfold hO at he ⊢
  refine ssha_Hash_Sum fun H hh => ?_
  dsimp only [csha_Hash_Sum]
  refine walk1 (k := ?_)
  repeat' first | refine And.intro ?_ ?_ | intro
  all_goals refine leaf ?_
  refine callE (he) ?_
  refine walk1 (k := ?_)
  repeat' first | refine And.intro ?_ ?_ | intro
  all_goals refine leaf ?_
  rename_i x _ _ _ hh
  have hw := hwrite_prog x v r (endL n) n hv (by omega) (by omega)
  have hxl := eat_len (r := r ++ endL n) hv
  generalize eat v (r ++ endL n) = E at *
  unfold hO at hw
  refine callL (hw) ?_
  rintro u L' H' ⟨rfl, rfl⟩ hh
  refine walk1 (k := ?_)
  repeat' first | refine And.intro ?_ ?_ | intro
  all_goals refine leaf ?_
  have hE8 : [wv (nth E.1 0), wv (nth E.1 1), wv (nth E.1 2), wv (nth E.1 3), wv (nth E.1 4), wv (nth E.1 5), wv (nth E.1 6), wv (nth E.1 7)] = E.1.flatMap wdC := wv8_eq hxl
  refine loopN [4, 16, 17] 8 (fun i vs L => ∃ a, vs = [.slice a 0 (outB (E.1.take i)).length 1, .agg (E.1.flatMap wdC), .int .i64 (i : Nat)] ∧ L = [(a, .cells true ((outB (E.1.take i)).flatMap byteC)), (h, .cells true (hO v r n))])
    (Nx.hereW [.slice 0 0 0 1, .agg (E.1.flatMap wdC), .int .i64 (0 : Nat)] ⟨0, rfl, rfl⟩ (hw := .cons (Wk.nils _ _) (.cons (by rw [← hE8]; exact Wk.refl _) (.cons (Wk.refl _) .nil)))) ?_
  clear hh
  rintro i _ _ env H hi ⟨a, rfl, rfl⟩ hh
  simp only [puts]
  refine walk (k := ?_)
  repeat' first | refine And.intro ?_ ?_ | intro
  all_goals refine leaf ?_
  · refine wps_rd (v := wv (nth E.1 i)) ?_ ?_
    · show (if 0 ≤ (i : Int) ∧ (i : Int) < (8 : Nat) then (E.1.flatMap wdC)[((i : Int)).toNat]? else none) = _
      rw [if_pos (by omega), Int.toNat_natCast]
      exact wds_get (by omega)
    have en := outB_next (l := E.1) (i := i) (by omega)
    have hol := outB_len (E.1.take i)
    rw [List.length_take] at hol
    refine walk1 (k := ?_)
    repeat' first | refine And.intro ?_ ?_ | intro
    all_goals refine leaf ?_
    rename_i t _ hh
    refine wps_approw hh (w4B (nth E.1 i)) (enc := byteC) (m := 0) (t := t) (b := true) (L' := fun id' => [(t, .cells true ((w4B (nth E.1 i)).flatMap byteC)), (id', .cells true ((outB (E.1.take i) ++ w4B (nth E.1 i)).flatMap byteC)), (h, .cells true (hO v r n))]) rfl rfl .here (fun _ => rfl) (fun _ => .there .here1) (by show (_ + 4) * 1 ≤ _; omega) fun id' H' hh => ?_
    rw [← en] at hh ⊢
    refine walk1 (k := ?_)
    repeat' first | refine And.intro ?_ ?_ | intro
    all_goals refine leaf ?_
    exact Nx.next (by omega) ⟨id', rfl, rfl⟩
  · have e8 : i = 8 := by omega
    subst e8
    rw [List.take_of_length_le (by omega)] at hh ⊢
    refine walk1 (k := ?_)
    repeat' first | refine And.intro ?_ ?_ | intro
    all_goals refine leaf ?_
    exact doneR rfl
/-- The digest, as the code reckons it. -/
def shaL (s : List UInt8) : List UInt8 := outB (eat (eat V0 s).1 ((eat V0 s).2 ++ endL s.length)).1
theorem shaL_len (s : List UInt8) : (shaL s).length = 32 := by
  rw [shaL, outB_len, eat_len (eat_len rfl)]
theorem eat_rest : ∀ {v : List Wd} {r : List UInt8}, (eat v r).2.length = r.length % 64 := by
  intro v r
  induction v, r using eat.induct with
  | case1 v r h ih => rw [eat_more h, ih, List.length_drop]; omega
  | case2 v r h => rw [eat_end (by omega)]; exact (Nat.mod_eq_of_lt (show r.length < 64 by omega)).symm
theorem sha_prog (s : List UInt8) (hs : s.length ≤ 10000000) : CallsR Tryd.prog nsha_Sum [.str s] [] fun u => u = .str (shaL s) := by
  have hnew : CallsL Tryd.prog nsha_New [] [] fun u L' => ∃ h, u = .ptr h 0 ∧ L' = [(h, .cells true (hO V0 [] 0))] := by
    have h0 := start_prog
    rw [← wv8_eq (x := V0) rfl] at h0
    unfold wv8 at h0
    unfold hO
    generalize V0 = v at *
    refine ssha_New fun H hh => ?_
    dsimp only [csha_New]
    refine walk1 (k := ?_)
    repeat' first | refine And.intro ?_ ?_ | intro
    all_goals refine leaf ?_
    refine callE (h0) ?_
    refine walk1 (k := ?_)
    repeat' first | refine And.intro ?_ ?_ | intro
    all_goals refine leaf ?_
    rename_i h _ hh
    exact done ⟨h, rfl, rfl⟩
  have hr := eat_rest (v := V0) (r := s)
  have hl := eat_len (v := V0) (r := s) rfl
  have hv0 : V0.length = 8 := rfl
  refine ssha_Sum fun H hh => ?_
  dsimp only [csha_Sum]
  refine walk1 (k := ?_)
  repeat' first | refine And.intro ?_ ?_ | intro
  all_goals refine leaf ?_
  refine callL (hnew) ?_
  rintro u L' H' ⟨h, rfl, rfl⟩ hh
  have hw := hwrite_prog h V0 [] s 0 hv0 (by simp; omega) (by omega)
  rw [List.nil_append, Nat.zero_add] at hw
  have hS : shaL s = outB (eat (eat V0 s).1 ((eat V0 s).2 ++ endL s.length)).1 := rfl
  rw [hS]
  clear hS
  generalize V0 = v at *
  generalize eat v s = E at *
  refine walk1 (k := ?_)
  repeat' first | refine And.intro ?_ ?_ | intro
  all_goals refine leaf ?_
  refine callL (hw) ?_
  rintro u L' H' ⟨rfl, rfl⟩ hh
  have hsum := hsum_prog h E.1 E.2 s.length hl hr hs
  refine walk1 (k := ?_)
  repeat' first | refine And.intro ?_ ?_ | intro
  all_goals refine leaf ?_
  refine callE (hsum) ?_
  refine walk1 (k := ?_)
  repeat' first | refine And.intro ?_ ?_ | intro
  all_goals refine leaf ?_
  exact doneR rfl
end Go.Proofs.YtelgcaacaolgfaaDoor
