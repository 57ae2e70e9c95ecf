/-
  A program logic over the model's calls, part 9: every operation that only reads comes to what it is said to come to.
-/
import Derived.Test.YtebhddpildfgcaaCmRd4
namespace Go.CM

section
variable {P : Program} {n : Nat} {ι : Pl} {H : Heap} {w : World} {env : Env} {a : Act}

theorem rd_build (hE : EnvR n ι w env a) {t : TypeId} {z : List V} (hz : zeroT P t = some (.agg z)) {ps : Array (Nat × Operand)} {qs : List (Nat × Nat × X)} {v : V}
    (hu : (∃ fs, P.underlying t = some (.struct fs) ∧ partsS P n fs ps.toList = some qs ∧ ∀ f ∈ fs.toList, ∃ s, sizeT P f.type = some s) ∨ (∃ k e s, P.underlying t = some (.array k e) ∧ sizeT P e = some s ∧ partsA n s ps.toList = some qs))
    (hv : R.ev env H (.build z qs) = some v) : Gives P (Instr.build t (ps.map fun (i, x) => (i, a.eval x))) ι w v := by
  obtain ⟨u, h1, h2, _⟩ := run_zero hz
  have h3 := h2 ι w
  simp only [R.ev] at hv
  split at hv
  · rename_i cs hf
    cases hv
    cases h3 with
    | agg _ us h ho =>
      have hps : (ps.map fun (i, x) => (i, a.eval x)).toList = ps.toList.map fun p => (p.1, a.eval p.2) := by simp
      rcases hu with ⟨fs, hun, hp, hall⟩ | ⟨k, e, s, hun, hs, hp⟩
      · obtain ⟨hl, hq⟩ := partsS_len hp
        obtain ⟨places, hpl, hpl'⟩ := mapM_places (P := P) (w := w) hall
        obtain ⟨zs, g1, g2, g3⟩ := fill_runs hE (places[·]?) hl (us := ⟨us⟩) (fun j i x hj => by
          obtain ⟨off, s, y, k1, ⟨f, k2, k3, k4⟩, k5⟩ := hq j i x hj
          subst k3
          exact ⟨f.offset, s, y, k1, hpl' i f s k2 k4, k5⟩) h ho hf
        refine ⟨.agg zs, ?_, by have := VR.agg (ι := ι) (w := w) cs zs.toList g2 g3; simpa using this⟩
        rw [← hps] at g1
        simp only [Instr.build, Sem.run_bind, h1, Result.andThen_ok, run_underlying hun, hpl, Value.cells, g1, Sem.run_pure]
      · obtain ⟨hl, hq⟩ := partsA_len hp
        obtain ⟨zs, g1, g2, g3⟩ := fill_runs hE (fun i => some (i * s, s)) hl (us := ⟨us⟩) (fun j i x hj => by
          obtain ⟨off, s', y, k1, ⟨k2, k3⟩, k5⟩ := hq j i x hj
          subst k2; subst k3
          exact ⟨_, _, y, k1, rfl, k5⟩) h ho hf
        refine ⟨.agg zs, ?_, by have := VR.agg (ι := ι) (w := w) cs zs.toList g2 g3; simpa using this⟩
        rw [← hps] at g1
        simp only [Instr.build, Sem.run_bind, h1, Result.andThen_ok, run_underlying hun, run_sizeOf hs, Value.cells, g1, Sem.run_pure]
  · cases hv

theorem eqGuard_agg {op : BinOp} {t : TypeId} {x y : Operand} {u z : Array Value} (h : P.eqGuardType P.depth t = false) : (eqGuard op t x y (.agg u) (.agg z)).run P w = .ok () w := by
  cases op <;> simp [eqGuard, h]

section
variable {t : TypeId} (d : Nat)
theorem eqIn_p1 {e : TypeId} (h : P.underlying t = some (.pointer e)) (b : Option Addr) : (Op.equalIn (d + 1) t (.pointer none) (.pointer b)).run P w = .ok b.isNone w := by simp [Op.equalIn, run_underlying h]
theorem eqIn_p2 {e : TypeId} (h : P.underlying t = some (.pointer e)) (a : Addr) : (Op.equalIn (d + 1) t (.pointer (some a)) (.pointer none)).run P w = .ok false w := by simp [Op.equalIn, run_underlying h]
theorem eqIn_s1 {e : TypeId} (h : P.underlying t = some (.slice e)) (b : Option Addr) (l c l' c' : Nat) : (Op.equalIn (d + 1) t (.slice none l c) (.slice b l' c')).run P w = .ok b.isNone w := by simp [Op.equalIn, run_underlying h]
theorem eqIn_s2 {e : TypeId} (h : P.underlying t = some (.slice e)) (a : Addr) (l c l' c' : Nat) : (Op.equalIn (d + 1) t (.slice (some a) l c) (.slice none l' c')).run P w = .ok false w := by simp [Op.equalIn, run_underlying h]
theorem eqIn_m1 {k e : TypeId} (h : P.underlying t = some (.map k e)) (b : Option Nat) : (Op.equalIn (d + 1) t (.map none) (.map b)).run P w = .ok b.isNone w := by simp [Op.equalIn, run_underlying h]
theorem eqIn_m2 {k e : TypeId} (h : P.underlying t = some (.map k e)) (a : Nat) : (Op.equalIn (d + 1) t (.map (some a)) (.map none)).run P w = .ok false w := by simp [Op.equalIn, run_underlying h]
theorem eqIn_f1 {x y : Array TypeId} {z : Bool} (h : P.underlying t = some (.func x y z)) : (Op.equalIn (d + 1) t .nilFunc .nilFunc).run P w = .ok true w := by simp [Op.equalIn, run_underlying h]
theorem eqIn_f2 {x y : Array TypeId} {z : Bool} (h : P.underlying t = some (.func x y z)) (f : Fn) (b c : Array Value) : (Op.equalIn (d + 1) t .nilFunc (.func f b c)).run P w = .ok false w := by simp [Op.equalIn, run_underlying h]
theorem eqIn_f3 {x y : Array TypeId} {z : Bool} (h : P.underlying t = some (.func x y z)) (f : Fn) (b c : Array Value) : (Op.equalIn (d + 1) t (.func f b c) .nilFunc).run P w = .ok false w := by simp [Op.equalIn, run_underlying h]
end

theorem bif_none {c x b : Bool} (h : (bif c then none else some x) = some b) : x = b := by
  cases c with
  | true => cases h
  | false => exact Option.some.inj h

theorem rd_eq (hE : EnvR n ι w env a) {neg : Bool} {t : TypeId} {c : EqC} (hc : eqC P t = some c) {x y : Operand} {x' y' : X} (hx : compX n x = some x') (hy : compX n y = some y') {v : V}
    (hv : R.ev env H (.eq c neg x' y') = some v) :
    Gives P (do eqGuard (if neg then .neq else .eql) t x y (a.eval x) (a.eval y); binOp (if neg then .neq else .eql) t (a.eval x) (a.eval y)) ι w v := by
  have h1 := X.sound hE hx
  have h2 := X.sound hE hy
  simp only [R.ev] at hv
  split at hv
  · rename_i b hb
    cases hv
    have key : ∀ u z : Value, (Op.equal t u z).run P w = .ok b w → (∀ op, (eqGuard op t x y u z).run P w = .ok () w) →
        binOp .eql t u z = (do pure (.bool (← Op.equal t u z)) : Sem Value) → binOp .neq t u z = (do pure (.bool (!(← Op.equal t u z))) : Sem Value) →
        Gives P (do eqGuard (if neg then .neq else .eql) t x y u z; binOp (if neg then .neq else .eql) t u z) ι w (.bool (bif neg then !b else b)) := by
      intro u z he hg e1 e2
      refine ⟨.bool (bif neg then !b else b), ?_, .bool _⟩
      cases neg with
      | false => simp [hg, e1, he]
      | true => simp [hg, e2, he]
    unfold eqC at hc
    generalize x'.ev env = p at *
    generalize y'.ev env = q at *
    generalize a.eval x = u at *
    generalize a.eval y = z at *
    split at hc
    case h_1 hun =>
      cases hc
      cases h1 <;> cases h2 <;> simp only [eqV] at hb <;> first | (cases hb; done) | skip
      cases hb
      exact key _ _ (run_equal_bool w t _ _ hun) (fun op => by cases op <;> rfl) rfl rfl
    case h_2 e hun =>
      cases hc
      cases h1 <;> cases h2 <;> simp only [eqV] at hb <;> first | (cases hb; done) | skip
      all_goals
        cases hb
        first | exact key _ _ (eqIn_p1 9999 hun _) (fun op => by cases op <;> rfl) rfl rfl | exact key _ _ (eqIn_p2 9999 hun _) (fun op => by cases op <;> rfl) rfl rfl
    case h_3 e hun =>
      cases hc
      cases h1 <;> cases h2 <;> simp only [eqV] at hb <;> first | (cases hb; done) | skip
      all_goals
        first | cases hb | (obtain rfl := bif_none hb)
        first | exact key _ _ (eqIn_s1 9999 hun _ _ _ _ _) (fun op => by cases op <;> rfl) rfl rfl | exact key _ _ (eqIn_s2 9999 hun _ _ _ _ _) (fun op => by cases op <;> rfl) rfl rfl
    case h_4 k e hun =>
      cases hc
      cases h1 <;> cases h2 <;> simp only [eqV] at hb <;> first | (cases hb; done) | skip
      all_goals
        cases hb
        first | exact key _ _ (eqIn_m1 9999 hun _) (fun op => by cases op <;> rfl) rfl rfl | exact key _ _ (eqIn_m2 9999 hun _) (fun op => by cases op <;> rfl) rfl rfl
    case h_5 k e hun =>
      cases hc
      cases h1 <;> cases h2 <;> simp only [eqV] at hb <;> first | (cases hb; done) | skip
      all_goals
        cases hb
        first | exact key _ _ (eqIn_f1 9999 hun) (fun op => by cases op <;> rfl) rfl rfl | exact key _ _ (eqIn_f2 9999 hun _ _ _) (fun op => by cases op <;> rfl) rfl rfl | exact key _ _ (eqIn_f3 9999 hun _ _ _) (fun op => by cases op <;> rfl) rfl rfl
    case h_6 fs hun =>
      cases hg : P.eqGuardType P.depth t with
      | true => simp [hg] at hc
      | false =>
        simp only [hg, cond_false, Option.map_eq_some_iff] at hc
        obtain ⟨ks, hk, rfl⟩ := hc
        cases h1 <;> cases h2 <;> simp only [eqV] at hb <;> first | (cases hb; done) | skip
        rename_i as us hu ho bs zs hz ho'
        refine key _ _ ?_ (fun op => eqGuard_agg hg) rfl rfl
        have := equal_plain 20 Op.maxDepth (by decide) t ks hk as bs us zs b hu hz hb
        simp only [pack, isAggT, hun] at this
        exact this
    case h_7 => cases hc
  · cases hv

theorem rd_un (hE : EnvR n ι w env a) {op : UnOp} {x : Operand} {x' : X} (hx : compX n x = some x') {v : V} (hv : R.ev env H (.un op x') = some v) : Gives P (Op.unary op (a.eval x)) ι w v := by
  have h1 := X.sound hE hx
  simp only [R.ev] at hv
  generalize x'.ev env = p at *
  generalize a.eval x = u at *
  cases op <;> cases h1 <;> simp only [unV] at hv <;> first | (cases hv; done) | skip
  all_goals
    cases hv
    first
    | exact ⟨_, rfl, .int _ _⟩
    | exact ⟨_, rfl, .bool _⟩

theorem bytes_run : ∀ (us : List Value) (vs : List V) (bs : List UInt8) (acc : ByteArray), VRs ι w vs us → vs.mapM (fun v => match v with | .int .u8 n => some (UInt8.ofNat n.toNat) | _ => none) = some bs →
    (forIn (m := Sem) us acc (fun (c : Value) (s : ByteArray) => (match c with
      | .int .u8 n => pure (ForInStep.yield (s.push (UInt8.ofNat n.toNat)))
      | _ => do
        stuck "bytesToString: byte expected"
        pure (ForInStep.yield s) : Sem (ForInStep ByteArray)))).run P w = .ok ⟨acc.data ++ bs.toArray⟩ w
  | [], vs, bs, acc, h, hm => by
    cases h; simp at hm; subst hm; simp
  | u :: us, vs, bs, acc, h, hm => by
    cases h with
    | cons v _ vs _ hv ht =>
      rw [List.mapM_cons] at hm
      cases hv <;> try (simp at hm; done)
      rename_i k n
      cases k <;> try (simp at hm; done)
      simp only [Option.bind_eq_bind, Option.bind_some] at hm
      cases hm' : vs.mapM (fun v => match v with | .int .u8 n => some (UInt8.ofNat n.toNat) | _ => none) with
      | none => simp [hm'] at hm
      | some bs' =>
        simp [hm'] at hm
        subst hm
        rw [List.forIn_cons]
        simp only [Sem.run_bind, Sem.run_pure, Result.andThen_ok]
        rw [bytes_run us vs bs' _ ht hm']
        congr 2
        show (acc.data.push _) ++ _ = _
        rw [Array.push_eq_append, Array.append_assoc]
        congr 1
        simp

theorem rd_b2s (hE : EnvR n ι w env a) (hR : Rel ι H w) {x : Operand} {x' : X} (hx : compX n x = some x') {v : V} (hv : R.ev env H (.b2s x') = some v) : Gives P (Conv.bytesToString (a.eval x)) ι w v := by
  have h1 := X.sound hE hx
  simp only [R.ev] at hv
  generalize x'.ev env = p at *
  generalize a.eval x = u at *
  split at hv
  · cases hv; cases h1
    exact ⟨.string .empty, rfl, .str ByteArray.empty⟩
  · rename_i id off len esz
    cases hz0 : Nat.beq len 0 with
    | true =>
      rw [hz0] at hv
      have hz := Nat.eq_of_beq_eq_true hz0
      subst hz
      cases hv
      cases h1 with
      | slice0 => exact ⟨.string .empty, rfl, .str ByteArray.empty⟩
      | slice _ _ _ _ ad cap hl h => exact ⟨.string .empty, by simp [Conv.bytesToString, loadCells, loadCellsFrom], .str ByteArray.empty⟩
    | false =>
    rw [hz0] at hv
    simp only [cond_false] at hv
    split at hv
    · rename_i rw' cs hH
      split at hv
      · rename_i vs hg
        split at hv
        · rename_i bs hm
          cases hv
          cases h1 with
          | slice0 => cases hz0
          | slice _ _ _ _ ad cap hl h =>
            by_cases hc : 0 < cap
            · obtain ⟨b, o, c, e, f, hι, rfl, _, _⟩ := h hc
              obtain ⟨us, h4, h5, h6, h7⟩ := hR.cells hH hι hg
              have hlc := run_loadCells_list (P := P) w ⟨b, o + off, none⟩ us h7
              rw [h4] at hlc
              have hb := bytes_run (P := P) us vs bs ByteArray.empty h5 hm
              refine ⟨.string ⟨bs.toArray⟩, ?_, by have := VR.str (ι := ι) (w := w) ⟨bs.toArray⟩; simpa using this⟩
              simp only [Conv.bytesToString, Sem.run_bind, hlc, Result.andThen_ok]
              rw [List.forIn_toArray]
              refine Eq.trans ?_ ((congrArg (fun r : Result ByteArray => r.andThen fun a w' => Sem.run P (pure (Value.string a)) w') hb).trans ?_)
              · rfl
              · simp
            · have hz : len = 0 := by omega
              subst hz
              have hvs : vs = [] := by
                unfold getCells at hg
                cases hb : Nat.ble (off + 0) cs.length with
                | false => rw [hb] at hg; cases hg
                | true => rw [hb] at hg; simpa using hg.symm
              subst hvs
              simp at hm; subst hm
              exact ⟨.string .empty, by simp [Conv.bytesToString, loadCells, loadCellsFrom], .str ByteArray.empty⟩
        · cases hv
      · cases hv
    · cases hv
  · cases hv

theorem run_info {t : TypeId} {s : Nat} (h : sizeT P t = some s) : ∃ i, (typeInfo t).run P w = .ok i w ∧ i.size = s := by
  obtain ⟨i, h1, h2⟩ := sizeT_info h
  exact ⟨i, by simp [typeInfo, h1], h2⟩

theorem rd_faddr (hE : EnvR n ι w env a) {t : TypeId} {fs : Array Field} (hun : P.underlying t = some (.struct fs)) {i : Nat} {f : Field} (hf : fs[i]? = some f) {s : Nat} (hs : sizeT P f.type = some (s + 1))
    {x : Operand} {x' : X} (hx : compX n x = some x') {v : V} (hv : R.ev env H (.faddr f.offset x') = some v) : Gives P (Instr.fieldAt t (a.eval x) i) ι w v := by
  have h1 := X.sound hE hx
  simp only [R.ev] at hv
  generalize x'.ev env = p at *
  generalize a.eval x = u at *
  split at hv
  · rename_i id off
    cases hv
    cases h1 with
    | ptr _ _ b o hι =>
      refine ⟨.pointer (some ⟨b, o + (off + f.offset), none⟩), ?_, .ptr _ _ _ _ hι⟩
      simp only [Instr.fieldAt, Sem.run_bind, run_underlying hun, Result.andThen_ok, hf, Instr.sureAddr, Sem.run_pure, fieldPlace, run_sizeOf hs, Nat.succ_ne_zero, if_false, Addr.add_lit, Nat.add_assoc]
  · cases hv

theorem getCells_some {cs vs : List V} {off k : Nat} (h : getCells cs off k = some vs) : off + k ≤ cs.length ∧ vs = (cs.drop off).take k := by
  unfold getCells at h
  cases hb : Nat.ble (off + k) cs.length with
  | false => simp [hb] at h
  | true => simp [hb] at h; exact ⟨Nat.le_of_ble_eq_true hb, h.symm⟩

theorem all_take_drop {us : List Value} (h : us.all one = true) (i k : Nat) : ((us.drop i).take k).all one = true := by
  rw [List.all_eq_true] at *
  intro x hx
  exact h x (List.mem_of_mem_drop (List.mem_of_mem_take hx))

theorem rd_fieldn (hE : EnvR n ι w env a) {t : TypeId} {fs : Array Field} (hun : P.underlying t = some (.struct fs)) {i : Nat} {f : Field} (hf : fs[i]? = some f) {s : Nat} (ha : isAggT P f.type = some true) (hs : sizeT P f.type = some s)
    {x : Operand} {x' : X} (hx : compX n x = some x') {v : V} (hv : R.ev env H (.fieldn f.offset s x') = some v) : Gives P (Instr.field t (a.eval x) i) ι w v := by
  have h1 := X.sound hE hx
  simp only [R.ev] at hv
  generalize x'.ev env = p at *
  generalize a.eval x = u at *
  split at hv
  · split at hv
    · rename_i vs hg
      cases hv
      cases h1 with
      | agg cs us h ho =>
        obtain ⟨h2, rfl⟩ := getCells_some hg
        refine ⟨.agg ⟨(us.drop f.offset).take s⟩, ?_, .agg _ _ ((h.drop _).take _) (all_take_drop ho _ _)⟩
        simp only [Instr.field, Sem.run_bind, run_underlying hun, Result.andThen_ok, hf, asAgg, Sem.run_pure, part, run_isAgg ha, if_true, run_sizeOf hs]
        congr 2
        apply Array.ext'
        simp
    · cases hv
  · cases hv

theorem rd_field1 (hE : EnvR n ι w env a) {t : TypeId} {fs : Array Field} (hun : P.underlying t = some (.struct fs)) {i : Nat} {f : Field} (hf : fs[i]? = some f) (ha : isAggT P f.type = some false)
    {x : Operand} {x' : X} (hx : compX n x = some x') {v : V} (hv : R.ev env H (.field1 f.offset x') = some v) : Gives P (Instr.field t (a.eval x) i) ι w v := by
  have h1 := X.sound hE hx
  simp only [R.ev] at hv
  generalize x'.ev env = p at *
  generalize a.eval x = u at *
  split at hv
  · cases h1 with
    | agg cs us h ho =>
      obtain ⟨u, h2, h3⟩ := h.get hv
      refine ⟨u, ?_, h3⟩
      simp [Instr.field, run_underlying hun, hf, asAgg, part, run_isAgg ha, h2]
  · cases hv

theorem rd_iaddrS (hE : EnvR n ι w env a) {t e : TypeId} (hun : P.underlying t = some (.slice e)) {s : Nat} (hs : sizeT P e = some s) {x y : Operand} {x' y' : X} (hx : compX n x = some x') (hy : compX n y = some y') {v : V}
    (hv : R.ev env H (.iaddrS s x' y') = some v) : Gives P (Instr.indexAt t (a.eval x) (a.eval y)) ι w v := by
  have h1 := X.sound hE hx
  have h2 := X.sound hE hy
  simp only [R.ev] at hv
  generalize x'.ev env = p at *
  generalize y'.ev env = q at *
  generalize a.eval x = u at *
  generalize a.eval y = z at *
  split at hv
  · split at hv
    · rename_i hb
      rename_i id off len esz' kk nn
      cases hv
      obtain ⟨hb1, hb2, rfl⟩ := hb
      cases h2
      cases h1 with
      | slice0 => omega
      | slice _ _ _ _ ad cap hl h =>
        obtain ⟨b, o, c, e', f, hι, rfl, _, _⟩ := h (by omega)
        refine ⟨.pointer (some ⟨b, o + (off + nn.toNat * esz'), none⟩), ?_, .ptr _ _ _ _ hι⟩
        simp only [Instr.indexAt, Sem.run_bind, asIntOf, Sem.run_pure, Result.andThen_ok, run_underlying hun, if_pos (And.intro hb1 hb2), run_sizeOf hs, Addr.add_lit, Nat.add_assoc, Sem.run_ite]
    · cases hv
  · cases hv

theorem rd_iaddrA (hE : EnvR n ι w env a) {t e : TypeId} {k : Nat} (hun : P.underlying t = some (.array k e)) {s : Nat} (hs : sizeT P e = some s) {x y : Operand} {x' y' : X} (hx : compX n x = some x') (hy : compX n y = some y') {v : V}
    (hv : R.ev env H (.iaddrA k s x' y') = some v) : Gives P (Instr.indexAt t (a.eval x) (a.eval y)) ι w v := by
  have h1 := X.sound hE hx
  have h2 := X.sound hE hy
  simp only [R.ev] at hv
  generalize x'.ev env = p at *
  generalize y'.ev env = q at *
  generalize a.eval x = u at *
  generalize a.eval y = z at *
  split at hv
  · split at hv
    · rename_i hb
      rename_i id off kk nn
      cases hv
      obtain ⟨hb1, hb2⟩ := hb
      cases h2
      cases h1 with
      | ptr _ _ b o hι =>
        refine ⟨.pointer (some ⟨b, o + (off + nn.toNat * s), none⟩), ?_, .ptr _ _ _ _ hι⟩
        simp only [Instr.indexAt, Sem.run_bind, asIntOf, Instr.sureAddr, Sem.run_pure, Result.andThen_ok, run_underlying hun, if_pos (And.intro hb1 hb2), run_sizeOf hs, Addr.add_lit, Nat.add_assoc, Sem.run_ite]
    · cases hv
  · cases hv

theorem rd_idxStr (hE : EnvR n ι w env a) {t : TypeId} (hun : P.underlying t = some .string) {x y : Operand} {x' y' : X} (hx : compX n x = some x') (hy : compX n y = some y') {v : V}
    (hv : R.ev env H (.idxStr x' y') = some v) : Gives P (Instr.index t (a.eval x) (a.eval y)) ι w v := by
  have h1 := X.sound hE hx
  have h2 := X.sound hE hy
  simp only [R.ev] at hv
  generalize x'.ev env = p at *
  generalize y'.ev env = q at *
  generalize a.eval x = u at *
  generalize a.eval y = z at *
  split at hv
  · split at hv
    · rename_i h0
      split at hv
      · rename_i b hb
        cases hv
        cases h2
        cases h1 with
        | str s =>
          refine ⟨.int .u8 b.toNat, ?_, .int _ _⟩
          rename_i nn _
          have hg : s[nn.toNat]? = some b := by
            rw [← hb, Array.getElem?_toList]; rfl
          simp [Instr.index, asIntOf, run_underlying hun, h0, hg]
      · cases hv
    · cases hv
  · cases hv

theorem rd_idxArr1 (hE : EnvR n ι w env a) {t e : TypeId} {k : Nat} (hun : P.underlying t = some (.array k e)) (ha : isAggT P e = some false) (hs : sizeT P e = some 1) {x y : Operand} {x' y' : X} (hx : compX n x = some x') (hy : compX n y = some y') {v : V}
    (hv : R.ev env H (.idxArr1 k x' y') = some v) : Gives P (Instr.index t (a.eval x) (a.eval y)) ι w v := by
  have h1 := X.sound hE hx
  have h2 := X.sound hE hy
  simp only [R.ev] at hv
  generalize x'.ev env = p at *
  generalize y'.ev env = q at *
  generalize a.eval x = u at *
  generalize a.eval y = z at *
  split at hv
  · split at hv
    · rename_i hb
      cases h2
      cases h1 with
      | agg cs us h ho =>
        obtain ⟨u, h3, h4⟩ := h.get hv
        refine ⟨u, ?_, h4⟩
        simp [Instr.index, asIntOf, run_underlying hun, hb, part, run_sizeOf hs, run_isAgg ha, h3]
    · cases hv
  · cases hv

end
end Go.CM
