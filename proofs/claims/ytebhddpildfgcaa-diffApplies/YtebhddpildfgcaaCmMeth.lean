/-
  A program logic over the model's calls, part 20b: methods by their names.
-/
import Derived.Test.YtebhddpildfgcaaCmRow2
namespace Go.CM

/-- A method of a type: its function, and how the receiver comes: 0 the pointer itself, 1 one cell behind it, 2 all cells behind it, 3 the value itself. -/
def methB (P : Program) (t : TypeId) (name : String) : Option (FuncId × Nat) :=
  match P.info? t with
  | some i => match i.methods.find? (·.name == name) with
    | some m => bif m.path.isEmpty then
        match m.func, P.underlying t with
        | some (f, true), some (.pointer _) => some (f, 0)
        | some (f, false), some (.pointer e) => match isAggT P e with
          | some false => some (f, 1)
          | some true => match sizeT P e with
            | some (n + 1) => some (f, 3 + n)
            | _ => none
          | none => none
        | some (f, false), some d => match d with
          | .pointer _ => none
          | _ => some (f, 2)
        | _, _ => none
      else none
    | none => none
  | none => none

section
variable {P : Program} {H : Heap} {t : TypeId} {name : String} {f : FuncId}

theorem methB_info {k : Nat} (h : methB P t name = some (f, k)) : ∃ i m, P.info? t = some i ∧ i.methods.find? (·.name == name) = some m ∧ m.path = #[] ∧
    ((k = 0 ∧ m.func = some (f, true) ∧ ∃ e, P.underlying t = some (.pointer e)) ∨
     (m.func = some (f, false) ∧ ∃ e, P.underlying t = some (.pointer e) ∧ ((k = 1 ∧ isAggT P e = some false) ∨ ∃ n, k = 3 + n ∧ isAggT P e = some true ∧ sizeT P e = some (n + 1))) ∨
     (k = 2 ∧ m.func = some (f, false) ∧ ∃ d, P.underlying t = some d ∧ ∀ e, d ≠ .pointer e)) := by
  unfold methB at h
  split at h
  · rename_i i hi
    split at h
    · rename_i m hm
      cases hp : m.path.isEmpty with
      | false => rw [hp] at h; cases h
      | true =>
        rw [hp] at h
        simp only [cond_true] at h
        refine ⟨i, m, hi, hm, by simpa using hp, ?_⟩
        split at h
        · cases h; rename_i h2 h1; exact .inl ⟨rfl, h1, _, h2⟩
        · rename_i f' e h1 h2
          split at h
          · cases h; rename_i h3; exact .inr (.inl ⟨h1, e, h2, .inl ⟨rfl, h3⟩⟩)
          · rename_i h3
            split at h
            · cases h; rename_i n h4; exact .inr (.inl ⟨h1, e, h2, .inr ⟨n, rfl, h3, h4⟩⟩)
            · cases h
          · cases h
        · rename_i f' d hne h1 h2
          split at h
          · cases h
          · cases h; rename_i h3; exact .inr (.inr ⟨rfl, h1, d, h2, fun e he => h3 e he⟩)
        · cases h
    · cases h
  · cases h

theorem meth_run {i : TypeInfo} {m : Method} {g : FuncId × Bool} (hi : P.info? t = some i) (hm : i.methods.find? (·.name == name) = some m) (hp : m.path = #[]) (hf : m.func = some g) {u x : Value} {w : World}
    (hr : (receiverAt t (.val u) g.2 (some ((name.splitOn ".").getLastD name))).run P w = .ok x w) : (Go.method (P.types.size + Made.depth) t u name).run P w = .ok (g.1, x) w := by
  have : P.types.size + Made.depth = (P.types.size + Made.depth - 1) + 1 := by simp [Made.depth]
  rw [this]
  obtain ⟨g1, g2⟩ := g
  simp only [Go.method, typeInfo, hi, hm, hp, hf, follow, Sem.run_bind, run_program, Result.andThen_ok, Sem.run_pure, Array.isEmpty, List.size_toArray, List.length_nil, decide_true, if_true, hr]

/-- A pointer's own method. -/
theorem meth_p (h : methB P t name = some (f, 0)) (v : V) : Meth P H t name v f v := by
  obtain ⟨i, m, h1, h2, h3, h4⟩ := methB_info h
  intro ι w u _ hu
  rcases h4 with ⟨_, h5, e, h6⟩ | ⟨_, e, _, ⟨h7, _⟩ | ⟨n, h7, _⟩⟩ | ⟨h7, _⟩
  · exact ⟨u, meth_run h1 h2 h3 h5 (by simp [receiverAt, run_underlying h6, Place.get]), hu⟩
  · cases h7
  · omega
  · cases h7
theorem wnc_run {xt : TypeId} {b : Addr} {nm : String} {w : World} : (Builtin.ssaWrapNilChk_ #[xt] xt #[.pointer (some b), strVal "", strVal nm]).run P w = .ok (.pointer (some b)) w := rfl
/-- A value's method at a pointer: of one cell. -/
theorem meth_l (h : methB P t name = some (f, 1)) {id off : Nat} {rw' : Bool} {cs : List V} {r : V} (hH : H id = some (.cells rw' cs)) (hv : cs[off]? = some r) : Meth P H t name (.ptr id off) f r := by
  obtain ⟨i, m, h1, h2, h3, h4⟩ := methB_info h
  intro ι w u hR hu
  rcases h4 with ⟨h7, _⟩ | ⟨h5, e, h6, ⟨_, h8⟩ | ⟨n, h7, _⟩⟩ | ⟨h7, _⟩
  · cases h7
  · cases hu with
    | ptr _ _ b o hι =>
      obtain ⟨x, h9, h10, _⟩ := hR.cell hH hι hv
      have hl := run_loadAt1 (P := P) h8 h9
      refine ⟨x, meth_run h1 h2 h3 h5 ?_, h10⟩
      simp only [Instr.loadAt, Instr.sureAddr, Sem.run_bind, Sem.run_pure, Result.andThen_ok] at hl
      simp only [receiverAt, Sem.run_bind, run_underlying h6, Result.andThen_ok, Place.get, Sem.run_pure, wnc_run, asAddr, hl]
  · omega
  · cases h7
/-- .. of all cells of a struct. -/
theorem meth_a {n : Nat} (h : methB P t name = some (f, 3 + n)) {id off : Nat} {rw' : Bool} {cs vs : List V} (hH : H id = some (.cells rw' cs)) (hv : getCells cs off (n + 1) = some vs) : Meth P H t name (.ptr id off) f (.agg vs) := by
  obtain ⟨i, m, h1, h2, h3, h4⟩ := methB_info h
  intro ι w u hR hu
  rcases h4 with ⟨h7, _⟩ | ⟨h5, e, h6, ⟨h7, _⟩ | ⟨n', h7, h8, h9⟩⟩ | ⟨h7, _⟩
  · omega
  · omega
  · have : n' = n := by omega
    subst this
    obtain ⟨us, g1, g2⟩ := rd_loadn (P := P) (n := 1) (ι := ι) (H := H) (w := w) (env := fun _ => .ptr id off) (a := { tmps := #[u], defers := [] }) ⟨rfl, rfl, fun t ht => by
      have : t = 0 := by omega
      subst this; exact hu⟩ hR h8 h9 (x := .tmp 0) (x' := .t 0) rfl (v := .agg vs) (by simp [R.ev, X.ev, hH, hv])
    cases hu with
    | ptr _ _ b o hι =>
      refine ⟨us, meth_run h1 h2 h3 h5 ?_, g2⟩
      have hl : (Instr.loadAt e (.pointer (some ⟨b, o + off, none⟩))).run P w = .ok us w := g1
      simp only [Instr.loadAt, Instr.sureAddr, Sem.run_bind, Sem.run_pure, Result.andThen_ok] at hl
      simp only [receiverAt, Sem.run_bind, run_underlying h6, Result.andThen_ok, Place.get, Sem.run_pure, wnc_run, asAddr, hl]
  · omega
end
end Go.CM
