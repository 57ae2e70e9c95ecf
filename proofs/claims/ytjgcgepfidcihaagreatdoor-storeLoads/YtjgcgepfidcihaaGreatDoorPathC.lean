/-
  A path: the code.
-/
import Derived.Test.YtjgcgepfidcihaaGreatDoorSplC
namespace Go.Proofs.YtjgcgepfidcihaaGreatDoor
open Go Go.CM
set_option maxRecDepth 100000
set_option maxHeartbeats 4000000

theorem callsNR {P : Program} {f : FuncId} {args : List V} {v0 : V} {Q : V → List Ob → Prop} (h : CallsN P f args [] Q) (hq : ∀ v Lo, Q v Lo → v = v0) : CallsR P f args [] fun v => v = v0 :=
  fun H hh => (h H hh).mono fun v _ ⟨_, ⟨Lo, a, _⟩, _⟩ => ⟨[], ⟨hq v Lo a, rfl⟩, Has.nil _⟩
theorem keyR (s : List UInt8) : CallsR Tryz.prog ncanon_Key [.str s] [] fun v => v = .bool (decide (keyP s.length ((sgs s 0).map (·.1)))) := callsNR (key_prog s) fun _ _ h => h
theorem pathV_none {s : List UInt8} (h : pathL s = none) : pathV s = .tup [.str [], .bool false] := by rw [pathV, h]
theorem pathV_some {s o : List UInt8} (h : pathL s = some o) : pathV s = .tup [.str o, .bool true] := by rw [pathV, h]
theorem joinL_len : ∀ {l : List (List UInt8)}, (∀ p ∈ l, p.length ≤ 60) → (joinL l).length ≤ 181 * l.length
  | [], _ => Nat.le_refl _
  | p :: l, h => by
    have h1 := joinL_len (l := l) fun q hq => h q (by simp [hq])
    have h2 := write_len p
    have h3 := h p (by simp)
    unfold joinL at *
    simp only [List.flatMap_cons, List.length_append, List.length_cons]
    omega
theorem joinL_next {l : List (List UInt8)} {i : Nat} (h : i < l.length) : joinL (l.take (i + 1)) = joinL (l.take i) ++ (47 :: writeL (nth l i)) := by
  rw [take_getD h]
  unfold joinL
  rw [List.flatMap_append, List.flatMap_cons, List.flatMap_nil, List.append_nil]
theorem path_prog (s : List UInt8) : CallsR Tryz.prog ncanon_Path [.str s] [] fun v => v = pathV s := by
  have hb : 60 < s.length ∨ s.length ≤ 60 := by omega
  have hpl : pathL s = if s = [] ∨ 60 < s.length ∨ (s.getD 0 0).toNat ≠ 47 then none else match partsL [] (splitL s) with
    | none => none
    | some l => if 60 < (fullL (joinL l)).length then none else some (fullL (joinL l)) := rfl
  have hz : s = [] ∨ 0 < s.length := by
    cases s with
    | nil => exact .inl rfl
    | cons => exact .inr (by simp)
  rcases hz with rfl | hz
  · skip
    refine scanon_Path fun H hh => ?_
    dsimp only [ccanon_Path]
    refine walk1 (k := ?_)
    repeat' first | refine And.intro ?_ ?_ | intro
    all_goals refine leaf ?_
    exact doneR rfl
  refine scanon_Path fun H hh => ?_
  dsimp only [ccanon_Path]
  refine walk (k := ?_)
  repeat' first | refine And.intro ?_ ?_ | intro
  all_goals refine leaf ?_
  · rename_i he
    subst he
    exact doneR (pathV_none rfl).symm
  · rw [if_pos (by omega)] at hpl
    exact doneR (pathV_none hpl).symm
  · rw [if_pos (by omega)] at hpl
    exact doneR (pathV_none hpl).symm
  rename_i h1 h2 h3
  rw [if_neg (by rintro (h | h | h); exact h1 h; omega; omega)] at hpl
  refine callN ((parts_prog s (by omega))) ?_
  rintro v Lo H' (⟨hp, rfl⟩ | ⟨l, a, hp, hl, hok, rfl, rfl⟩) hh
  · rw [hp] at hpl
    refine walk1 (k := ?_)
    repeat' first | refine And.intro ?_ ?_ | intro
    all_goals refine leaf ?_
    exact doneR (pathV_none hpl).symm
  rw [hp] at hpl
  dsimp only at hpl
  have hjl := joinL_len hok
  refine walk1 (k := ?_)
  repeat' first | refine And.intro ?_ ?_ | intro
  all_goals refine leaf ?_
  refine loopN [6, 28, 29, 30] l.length (fun i vs L => vs = [.str (joinL (l.take i)), .slice a 0 l.length 1, .int .i64 l.length, .int .i64 (i : Nat)] ∧ L = [(a, .cells true (l.flatMap strC))])
    (Nx.here ⟨rfl, rfl⟩) ?_
  clear hh
  rintro i _ _ e H hi ⟨rfl, rfl⟩ hh
  simp only [puts]
  refine walk (k := ?_)
  repeat' first | refine And.intro ?_ ?_ | intro
  all_goals refine leaf ?_
  · have hn : i < l.length := by omega
    have hm : (nth l i).length ≤ 60 := hok _ (nth_mem hn)
    have hw := write_prog (nth l i) (by omega)
    have hjt : (joinL (l.take i)).length ≤ 181 * i := by
      have := joinL_len (l := l.take i) fun p h => hok p (List.mem_of_mem_take h)
      rw [List.length_take] at this
      omega
    have hwl := write_len (nth l i)
    refine callE (hw) ?_
    refine walk1 (k := ?_)
    repeat' first | refine And.intro ?_ ?_ | intro
    all_goals refine leaf ?_
    have hls := splitL_len s
    have hcs := count_le s 47
    refine wps_rd (v := .str (47 :: writeL (nth l i))) (binV_cat (a := [47]) (by show 1 + _ ≤ _; omega)) ?_
    refine wps_rd (v := .str (joinL (l.take (i + 1)))) (by rw [joinL_next hn]; exact binV_cat (by rw [List.length_cons]; omega)) ?_
    refine walk1 (k := ?_)
    repeat' first | refine And.intro ?_ ?_ | intro
    all_goals refine leaf ?_
    exact Nx.next (by omega) ⟨rfl, rfl⟩
  · rename_i hn he
    rw [List.take_of_length_le (by omega)] at he
    rw [show fullL (joinL l) = [47] by rw [fullL, if_pos he], if_neg (by decide)] at hpl
    exact doneR (pathV_some hpl).symm
  · rename_i hn he h60
    rw [List.take_of_length_le (by omega)] at he h60
    rw [show fullL (joinL l) = joinL l by rw [fullL, if_neg he], if_pos (by omega)] at hpl
    exact doneR (pathV_none hpl).symm
  · rename_i hn he h60
    rw [List.take_of_length_le (by omega)] at he h60 ⊢
    rw [show fullL (joinL l) = joinL l by rw [fullL, if_neg he], if_neg (by omega)] at hpl
    exact doneR (pathV_some hpl).symm
end Go.Proofs.YtjgcgepfidcihaaGreatDoor
