/-
  A program logic over the model's calls, part 5: the operations that only read, one by one.
-/
import Derived.Test.YtebhddpildfgcaaCmRead
namespace Go.CM

/-- What an operation that only reads comes to in the model. -/
def Gives (P : Program) (s : Sem Value) (ι : Pl) (w : World) (v : V) : Prop := ∃ u, s.run P w = .ok u w ∧ VR ι w v u

theorem list_toList (s : ByteArray) : s.toList = s.data.toList := ByteArray.toList_eq s

section
variable {P : Program} {n : Nat} {ι : Pl} {H : Heap} {w : World} {env : Env} {a : Act}

theorem rd_pick (hE : EnvR n ι w env a) {c x y : Operand} {c' x' y' : X} (hc : compX n c = some c') (hx : compX n x = some x') (hy : compX n y = some y') {v : V}
    (hv : R.ev env H (.pick c' x' y') = some v) : Gives P (do pure (if ← asBool (a.eval c) then a.eval x else a.eval y)) ι w v := by
  have h1 := X.sound hE hc
  have h2 := X.sound hE hx
  have h3 := X.sound hE hy
  simp only [R.ev] at hv
  generalize a.eval c = z at h1 ⊢
  split at hv <;> cases hv
  · rename_i hb; rw [hb] at h1; cases h1; exact ⟨_, by simp [asBool], h2⟩
  · rename_i hb; rw [hb] at h1; cases h1; exact ⟨_, by simp [asBool], h3⟩

theorem rd_load1 (hE : EnvR n ι w env a) (hR : Rel ι H w) {t : TypeId} (ht : isAggT P t = some false) {x : Operand} {x' : X} (hx : compX n x = some x') {v : V}
    (hv : R.ev env H (.load1 x') = some v) : Gives P (Instr.loadAt t (a.eval x)) ι w v := by
  have h1 := X.sound hE hx
  simp only [R.ev] at hv
  split at hv
  · rename_i id off hp
    split at hv
    · rename_i rw' cs hH
      rw [hp] at h1
      generalize a.eval x = u at h1
      cases h1 with
      | ptr _ _ b o hι =>
        obtain ⟨u, h4, h5, _⟩ := hR.cell hH hι hv
        exact ⟨u, run_loadAt1 ht h4, h5⟩
    · cases hv
  · cases hv

theorem rd_loadn (hE : EnvR n ι w env a) (hR : Rel ι H w) {t : TypeId} (ht : isAggT P t = some true) {k : Nat} (hs : sizeT P t = some k) {x : Operand} {x' : X} (hx : compX n x = some x') {v : V}
    (hv : R.ev env H (.loadn k x') = some v) : Gives P (Instr.loadAt t (a.eval x)) ι w v := by
  have h1 := X.sound hE hx
  simp only [R.ev] at hv
  split at hv
  · rename_i id off hp
    split at hv
    · rename_i rw' cs hH
      split at hv
      · rename_i vs hg
        cases hv
        rw [hp] at h1
        generalize a.eval x = u at h1
        cases h1 with
        | ptr _ _ b o hι =>
          obtain ⟨us, h4, h5, h6, h7⟩ := hR.cells hH hι hg
          exact ⟨_, run_loadAtn ht hs h4 h7, .agg vs us h5 h6⟩
      · cases hv
    · cases hv
  · cases hv

theorem rd_nilck (hE : EnvR n ι w env a) {dst : Option Tmp} {x : Operand} {x' : X} {ty : TypeId} {pos : String} {af : Array Edge} {g : Option (Nat × Bool)} (hx : compX n x = some x') {v : V}
    (hv : R.ev env H (.nilck x') = some v) : ∃ u, (execOp a.eval ⟨dst, .nilCheck x, ty, pos, af, g⟩).run P w = .ok (.value u) w ∧ VR ι w v u := by
  have h1 := X.sound hE hx
  refine ⟨a.eval x, ?_, ?_⟩
  · simp only [R.ev] at hv
    split at hv <;> first | (cases hv; done) | skip
    rename_i n1 n2 n3
    simp only [execOp]
    generalize x'.ev env = z at *
    generalize a.eval x = u at h1
    cases h1 <;> first | rfl | exact absurd rfl n1 | exact absurd rfl n2 | exact absurd rfl n3
  · simp only [R.ev] at hv
    split at hv <;> cases hv
    exact h1

theorem seq_runs {k : SK} {x y : V} {u z : Value} (h1 : VR ι w x u) (h2 : VR ι w y z) {b : Bool} (h : seq k x y = some b) :
    (k = .b ∧ ∃ p q, u = .bool p ∧ z = .bool q ∧ b = (p == q)) ∨ (k = .i ∧ ∃ k p q, u = .int k p ∧ z = .int k q ∧ b = (p == q)) ∨
    (k = .s ∧ ∃ s t : ByteArray, u = .string s ∧ z = .string t ∧ b = (s.data.toList == t.data.toList)) := by
  cases k <;> cases h1 <;> cases h2 <;> simp only [seq] at h <;> first | (cases h; done) | skip
  · cases h; exact .inl ⟨rfl, _, _, rfl, rfl, rfl⟩
  · split at h
    · rename_i hk; subst hk; cases h; exact .inr (.inl ⟨rfl, _, _, _, rfl, rfl, rfl⟩)
    · cases h
  · cases h; exact .inr (.inr ⟨rfl, _, _, rfl, rfl, rfl⟩)

theorem binOp_str (op : BinOp) (t : TypeId) (s s' : ByteArray) : binOp op t (.string s) (.string s') = Op.stringOp op s s' := by cases op <;> rfl
theorem eqGuard_str (op : BinOp) (t : TypeId) (x y : Operand) (s : ByteArray) (u : Value) : eqGuard op t x y (.string s) u = pure () := by cases op <;> rfl
theorem eqGuard_int (op : BinOp) (t : TypeId) (x y : Operand) (k : IntKind) (n : Int) (u : Value) : eqGuard op t x y (.int k n) u = pure () := by cases op <;> rfl

theorem str_append (s t : ByteArray) : (s ++ t).data.toList = s.data.toList ++ t.data.toList := by
  have := ByteArray.data_append (l := s) (l' := t)
  rw [this]; exact Array.toList_append
theorem str_size (s : ByteArray) : s.data.toList.length = s.size := by
  show s.data.toList.length = s.data.size
  exact Array.length_toList

theorem bin_str {op : BinOp} {t : TypeId} {s s' : ByteArray} {v : V} (hv : binV op (.str s.data.toList) (.str s'.data.toList) = some v) : Gives P (binOp op t (.string s) (.string s')) ι w v := by
  rw [binOp_str]
  cases op <;> simp only [binV] at hv <;> first | (cases hv; done) | skip
  case add =>
    split at hv
    · cases hv
    · rename_i hle
      cases hv
      refine ⟨.string (s ++ s'), ?_, by rw [← str_append]; exact .str _⟩
      rw [str_size, str_size] at hle
      simp only [Op.stringOp, if_neg hle, Sem.run_pure]
  all_goals
    cases hv
    exact ⟨_, by simp [Op.stringOp, list_toList, strLess], .bool _⟩

theorem bin_int {op : BinOp} {t : TypeId} {k k' : IntKind} {x y : Int} {v : V} (hv : binV op (.int k x) (.int k' y) = some v) : Gives P (binOp op t (.int k x) (.int k' y)) ι w v := by
  cases op
  case shl =>
    simp only [binV] at hv
    split at hv
    · cases hv
    · rename_i hb; cases hv; exact ⟨_, by simp [binOp, Op.shift, hb], .int _ _⟩
  case shr =>
    simp only [binV] at hv
    split at hv
    · cases hv
    · rename_i hb; cases hv; exact ⟨_, by simp [binOp, Op.shift, hb], .int _ _⟩
  case quo =>
    simp only [binV] at hv
    split at hv
    · rename_i hk; subst hk
      split at hv
      · cases hv
      · rename_i hb; cases hv; exact ⟨_, by simp [binOp, Op.intDiv, hb], .int _ _⟩
    · cases hv
  case rem =>
    simp only [binV] at hv
    split at hv
    · rename_i hk; subst hk
      split at hv
      · cases hv
      · rename_i hb; cases hv; exact ⟨_, by simp [binOp, Op.intDiv, hb], .int _ _⟩
    · cases hv
  case add => simp only [binV] at hv; split at hv <;> cases hv; rename_i hk; subst hk; exact ⟨_, by rw [binOp_add]; rfl, .int _ _⟩
  case sub => simp only [binV] at hv; split at hv <;> cases hv; rename_i hk; subst hk; exact ⟨_, by rw [binOp_sub]; rfl, .int _ _⟩
  case mul => simp only [binV] at hv; split at hv <;> cases hv; rename_i hk; subst hk; exact ⟨_, by rw [binOp_mul]; rfl, .int _ _⟩
  case and => simp only [binV] at hv; split at hv <;> cases hv; rename_i hk; subst hk; exact ⟨_, by rw [binOp_and]; rfl, .int _ _⟩
  case or => simp only [binV] at hv; split at hv <;> cases hv; rename_i hk; subst hk; exact ⟨_, by rw [binOp_or]; rfl, .int _ _⟩
  case xor => simp only [binV] at hv; split at hv <;> cases hv; rename_i hk; subst hk; exact ⟨_, by rw [binOp_xor]; rfl, .int _ _⟩
  case andNot => simp only [binV] at hv; split at hv <;> cases hv; rename_i hk; subst hk; exact ⟨_, by rw [binOp_andNot]; rfl, .int _ _⟩
  case eql => simp only [binV] at hv; split at hv <;> cases hv; rename_i hk; subst hk; exact ⟨_, by rw [binOp_eql]; rfl, .bool _⟩
  case neq => simp only [binV] at hv; split at hv <;> cases hv; rename_i hk; subst hk; exact ⟨_, by rw [binOp_neq]; rfl, .bool _⟩
  case lss => simp only [binV] at hv; split at hv <;> cases hv; rename_i hk; subst hk; exact ⟨_, by rw [binOp_lss]; rfl, .bool _⟩
  case leq => simp only [binV] at hv; split at hv <;> cases hv; rename_i hk; subst hk; exact ⟨_, by rw [binOp_leq]; rfl, .bool _⟩
  case gtr => simp only [binV] at hv; split at hv <;> cases hv; rename_i hk; subst hk; exact ⟨_, by rw [binOp_gtr]; rfl, .bool _⟩
  case geq => simp only [binV] at hv; split at hv <;> cases hv; rename_i hk; subst hk; exact ⟨_, by rw [binOp_geq]; rfl, .bool _⟩

theorem rd_bin (hE : EnvR n ι w env a) {op : BinOp} {t : TypeId} {x y : Operand} {x' y' : X} (hx : compX n x = some x') (hy : compX n y = some y') {v : V}
    (hv : R.ev env H (.bin op x' y') = some v) : Gives P (do eqGuard op t x y (a.eval x) (a.eval y); binOp op t (a.eval x) (a.eval y)) ι w v := by
  have h1 := X.sound hE hx
  have h2 := X.sound hE hy
  simp only [R.ev] at hv
  generalize x'.ev env = p at *
  generalize y'.ev env = q at *
  generalize a.eval x = u at *
  generalize a.eval y = z at *
  have hcase : (∃ k i k' j, p = .int k i ∧ q = .int k' j) ∨ (∃ s s', p = .str s ∧ q = .str s') := by
    cases p <;> cases q <;> first
      | exact .inl ⟨_, _, _, _, rfl, rfl⟩
      | exact .inr ⟨_, _, rfl, rfl⟩
      | (exfalso; cases op <;> simp [binV] at hv)
  rcases hcase with ⟨k, i, k', j, rfl, rfl⟩ | ⟨s, s', rfl, rfl⟩
  · cases h1; cases h2
    obtain ⟨u, h3, h4⟩ := bin_int (P := P) (ι := ι) (w := w) (t := t) hv
    exact ⟨u, by simp [eqGuard_int, h3], h4⟩
  · cases h1; cases h2
    obtain ⟨u, h3, h4⟩ := bin_str (P := P) (ι := ι) (w := w) (t := t) hv
    exact ⟨u, by simp [eqGuard_str, h3], h4⟩

end
end Go.CM
