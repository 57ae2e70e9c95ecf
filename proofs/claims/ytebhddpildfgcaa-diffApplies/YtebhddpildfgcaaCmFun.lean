/-
  A program logic over the model's calls, part 18: code and functions.
-/
import Derived.Test.YtebhddpildfgcaaCmCode2
namespace Go.CM

section
variable {P : Program} {n : Nat}

theorem PostR.trans {ι ι1 : Pl} {H H1 : Heap} {w w1 : World} (hX : Ext ι H w ι1 H1 w1) {Q : Ex → Env → Heap → Prop} {e : Exit} {a : Act} {w' : World} (h : PostR n ι1 H1 w1 Q e a w') : PostR n ι H w Q e a w' := by
  obtain ⟨x, ι', env', H', h1, h2, h3, h4, h5⟩ := h
  exact ⟨x, ι', env', H', h1, h2, h3, hX.trans h4, h5⟩

theorem PostR.wkl {ι : Pl} {H H' : Heap} {w : World} (h : HWk H H') {Q : Ex → Env → Heap → Prop} {e : Exit} {a : Act} {w' : World} (k : PostR n ι H' w Q e a w') : PostR n ι H w Q e a w' := by
  obtain ⟨x, ι', env', H2, h1, h2, h3, h4, h5⟩ := k
  exact ⟨x, ι', env', H2, h1, h2, h3, h4.wkl h, h5⟩

theorem EnvR.wk {ι : Pl} {w : World} {env env' : Env} {a : Act} (h : EnvR n ι w env a) (hw : ∀ t, Wk (env t) (env' t)) : EnvR n ι w env' a :=
  { h with vals := fun t ht => hw t _ _ _ (h.vals t ht) }

theorem Wkn.run {env : Env} {H : Heap} {K : Env → Heap → Prop} (h : Wkn env H K) : ∀ {ι : Pl} {w : World} {a : Act}, EnvR n ι w env a → Rel ι H w → ∃ ι' env' H', EnvR n ι' w env' a ∧ Rel ι' H' w ∧ Ext ι H w ι' H' w ∧ K env' H' := by
  induction h with
  | here h => intro ι w a hE hR; exact ⟨ι, _, _, hE, hR, Ext.refl _ _ _, h⟩
  | weak we wh _ ih =>
    intro ι w a hE hR
    obtain ⟨ι', env', H', g1, g2, g3, g4⟩ := ih (hE.wk we) (wh.rel hR)
    exact ⟨ι', env', H', g1, g2, g3.wkl wh, g4⟩
  | @base env H K s id off len e cs hs hH ho _ ih =>
    intro ι w a hE hR
    obtain ⟨id', h00, hid', hι'⟩ := hR.fresh
    obtain ⟨b, o, hι, c, et, f, hb, hcs, hfr, hfit⟩ := hR.obj _ _ hH
    have hle := Pl.le_add (ι := ι) (id := id') (b, o + off) hι'
    have hnew : ObjR (ι.add id' (b, o + off)) w b (o + off) (.cells true (cs.drop off)) := by
      refine ⟨c, et, f, hb, fun k v hk => ?_, hfr, by rw [List.length_drop]; omega⟩
      rw [List.getElem?_drop] at hk
      obtain ⟨u, g1, g2, g3⟩ := hcs _ _ hk
      exact ⟨u, by rw [Nat.add_assoc]; exact g1, g2.mono hle (Shp.refl w), g3⟩
    obtain ⟨k1, k2⟩ := hR.takeover (o' := .cells true (cs.drop off)) (off' := o + off) h00 hH rfl hι hid' hι' (Shp.refl w) (fun _ _ => rfl) rfl (Tape.refl _) rfl rfl hnew rfl
    have hE' : EnvR n (ι.add id' (b, o + off)) w (env.put (some s) (.slice id' 0 len e)) a := by
      refine ⟨hE.size, hE.defers, fun t ht => ?_⟩
      by_cases hts : t = s
      · subst hts
        have hv := hE.vals t ht
        rw [hs] at hv
        have : (env.put (some t) (.slice id' 0 len e)) t = .slice id' 0 len e := by simp [Env.put]
        rw [this]
        generalize a.tmps.getD t Go.undef = u at hv
        cases hv with
        | slice _ _ _ _ ad cap hl h =>
          refine .slice _ _ _ _ _ _ hl fun hc => ?_
          obtain ⟨b', o', c', e', f', g1, g2, g3, g4⟩ := h hc
          rw [hι] at g1; cases g1
          exact ⟨b, o + off, c', e', f', Pl.add_same _ _ _, g2, g3, g4⟩
        | slice0 => rw [hR.zero] at hι; cases hι
      · have : (env.put (some s) (.slice id' 0 len e)) t = env t := by simp [Env.put, show Nat.beq t s = false from Bool.eq_false_iff.2 fun h => hts (Nat.eq_of_beq_eq_true h)]
        rw [this]
        exact (hE.vals t ht).mono hle (Shp.refl w)
    obtain ⟨ι', env', H', g1, g2, g3, g4⟩ := ih id' h00 hid' hE' k1
    exact ⟨ι', env', H', g1, g2, k2.trans g3, g4⟩
  | @nilx env H K s off e hs _ _ ih1 ih2 =>
    intro ι w a hE hR
    have mk : ∀ v, (s < n → VR ι w v (a.tmps.getD s Go.undef)) → EnvR n ι w (env.put (some s) v) a := fun v hv => ⟨hE.size, hE.defers, fun t ht => by
      by_cases hts : t = s
      · subst hts
        have : (env.put (some t) v) t = v := by simp [Env.put]
        rw [this]; exact hv ht
      · have : (env.put (some s) v) t = env t := by simp [Env.put, show Nat.beq t s = false from Bool.eq_false_iff.2 fun h => hts (Nat.eq_of_beq_eq_true h)]
        rw [this]; exact hE.vals t ht⟩
    by_cases hsn : s < n
    · have hv := hE.vals s hsn
      rw [hs] at hv
      have cas : VR ι w .nils (a.tmps.getD s Go.undef) ∨ VR ι w (.slice 1 off 0 e) (a.tmps.getD s Go.undef) := by
        generalize a.tmps.getD s Go.undef = u at hv
        cases hv with
        | slice0 => exact .inl .nils
        | slice _ _ _ _ ad cap hl h =>
          refine .inr (.slice _ _ _ _ _ _ hl fun hc => ?_)
          obtain ⟨b, o, _, _, _, h1, _⟩ := h hc
          rw [hR.zero] at h1; cases h1
      rcases cas with h | h
      · exact ih1 (mk _ fun _ => h) hR
      · exact ih2 (mk _ fun _ => h) hR
    · exact ih1 (mk _ fun h => absurd h hsn) hR
  | @capx env H K s id off len e hs _ ih =>
    intro ι w a hE hR
    have hcap : ∃ cap, len ≤ cap ∧ EnvR n ι w (env.put (some s) (.sliceC id off len cap e)) a := by
      by_cases hsn : s < n
      · have hv := hE.vals s hsn
        rw [hs] at hv
        have mk : ∀ cap, len ≤ cap → VR ι w (.sliceC id off len cap e) (a.tmps.getD s Go.undef) → ∃ cap, len ≤ cap ∧ EnvR n ι w (env.put (some s) (.sliceC id off len cap e)) a := fun cap hc hv => ⟨cap, hc, hE.size, hE.defers, fun t ht => by
          by_cases hts : t = s
          · subst hts
            have : (env.put (some t) (.sliceC id off len cap e)) t = .sliceC id off len cap e := by simp [Env.put]
            rw [this]; exact hv
          · have : (env.put (some s) (.sliceC id off len cap e)) t = env t := by simp [Env.put, show Nat.beq t s = false from Bool.eq_false_iff.2 fun h => hts (Nat.eq_of_beq_eq_true h)]
            rw [this]; exact hE.vals t ht⟩
        generalize hu : a.tmps.getD s Go.undef = u at *
        cases hv with
        | slice0 => exact mk 0 (Nat.le_refl _) (.sliceC0 _ _)
        | slice _ _ _ _ ad cap hl h => exact mk cap hl (.sliceC _ _ _ _ _ _ hl h)
      · refine ⟨len, Nat.le_refl _, hE.size, hE.defers, fun t ht => ?_⟩
        have hts : t ≠ s := by omega
        have : (env.put (some s) (.sliceC id off len len e)) t = env t := by simp [Env.put, show Nat.beq t s = false from Bool.eq_false_iff.2 fun h => hts (Nat.eq_of_beq_eq_true h)]
        rw [this]; exact hE.vals t ht
    obtain ⟨cap, hc, hE'⟩ := hcap
    exact ih cap hc hE' hR

/-- What a loop comes to from the head of a round on. -/
def LoopAt (P : Program) (n : Nat) (ro : Option Nat) (c : Code) (Q : Ex → Env → Heap → Prop) (env : Env) (H : Heap) : Prop :=
  ∀ (ι : Pl) (w : World) (a : Act), EnvR n ι w env a → Rel ι H w → ∀ (b : Frame) (k : List Item) (cs : List Frame), b.roundOf = (FW ro).round → (FW ro).fn b.fn → (FW ro).room (cs.length + 1 + 0) →
    ∃ e a' w', PostR n ι H w Q e a' w' ∧ ArrivesIn (Machine.fenced P (FW ro)) P (lone (b.atR a (.code c :: .inLoop c :: k)) cs w) b k cs e a' w'

theorem dead_no {ι : Pl} {env : Env} {H : Heap} {w : World} {a : Act} {Q : Ex → Env → Heap → Prop} (h : deadC.wp P Q env H) (hE : EnvR n ι w env a) (hR : Rel ι H w) : False := by
  obtain ⟨_, _, _, _, _, _, hf⟩ := Wkn.run h hE hR
  exact hf
theorem C.sound (hm : P.follows .mixedOrders = true) (ro : Option Nat) : ∀ (c : Code) (cc : C), comp P n c = some cc → ∀ (Q : Ex → Env → Heap → Prop) (env : Env) (H : Heap), cc.wp P Q env H →
    ∀ (ι : Pl) (w : World) (a : Act), EnvR n ι w env a → Rel ι H w → c.wpIn (FW ro) 0 P (PostR n ι H w Q) a w := by
  intro c
  induction c with
  | skip =>
    intro cc hc Q env H hk ι w a hE hR
    simp only [comp] at hc; cases hc
    obtain ⟨ι, env', H', hE, hR, hX, hk⟩ := Wkn.run hk hE hR
    exact wpIn_skip (PostR.trans hX ⟨.normal, ι, env', H', trivial, hE, hR, Ext.refl _ _ _, hk⟩)
  | region id ops draw =>
    intro cc hc Q env H hk ι w a hE hR
    cases draw with
    | false =>
      simp only [comp] at hc
      split at hc <;> cases hc
      rotate_left
      · exact (dead_no hk hE hR).elim
      rename_i is h1
      obtain ⟨ι, env', H', hE, hR, hX, hk⟩ := Wkn.run hk hE hR
      exact wpIn_mono (region_sound h1 hk hE hR ro) fun _ _ _ => PostR.trans hX
    | true =>
      simp only [comp] at hc
      split at hc <;> cases hc
      rotate_left
      · exact (dead_no hk hE hR).elim
      rename_i is h1
      obtain ⟨ι, env', H', hE, hR, hX, hk⟩ := Wkn.run hk hE hR
      exact wpIn_mono (draw_sound hm h1 hk hE hR ro) fun _ _ _ => PostR.trans hX
  | seq x y ihx ihy =>
    intro cc hc Q env H hk ι w a hE hR
    simp only [comp] at hc
    split at hc
    · rename_i cx cy h1 h2
      cases hc
      obtain ⟨ι, env1, H1, hE, hR, hX, hk⟩ := Wkn.run hk hE hR
      refine wpIn_mono (?_ : (Code.seq x y).wpIn (FW ro) 0 P (PostR n ι H1 w Q) a w) fun _ _ _ => PostR.trans hX
      refine wpIn_seq (wpIn_mono (ihx cx h1 _ env1 H1 hk ι w a hE hR) ?_)
      rintro e a' w' ⟨x, ι', env', H', g1, g2, g3, g4, g5⟩
      cases x <;> cases e <;> simp only [exitR] at g1
      · exact wpIn_mono (ihy cy h2 Q env' H' g5 ι' w' a' g2 g3) fun e a w h => h.trans g4
      · subst g1; exact ⟨.exit _, ι', env', H', rfl, g2, g3, g4, g5⟩
      · exact ⟨.ret, ι', env', H', trivial, g2, g3, g4, g5⟩
    · cases hc
  | cond x y z ihy ihz =>
    intro cc hc Q env H hk ι w a hE hR
    simp only [comp] at hc
    split at hc
    · rename_i x' cy cz h1 h2 h3
      cases hc
      obtain ⟨ι, env1, H1, hE, hR, hX, hk⟩ := Wkn.run hk hE hR
      refine wpIn_mono (?_ : (Code.cond x y z).wpIn (FW ro) 0 P (PostR n ι H1 w Q) a w) fun _ _ _ => PostR.trans hX
      have hv := X.sound hE h1
      replace hk : bcond (x'.ev env1) (cy.wp P Q env1 H1) (cz.wp P Q env1 H1) := hk
      generalize x'.ev env1 = p at *
      generalize hu : a.eval x = u at *
      unfold bcond at hk
      split at hk
      · cases hv; exact wpIn_cond_true hu (ihy cy h2 Q env1 H1 hk ι w a hE hR)
      · cases hv; exact wpIn_cond_false hu (ihz cz h3 Q env1 H1 hk ι w a hE hR)
      · exact hk.elim
    · cases hc
  | block id x ih =>
    intro cc hc Q env H hk ι w a hE hR
    simp only [comp] at hc
    split at hc
    · rename_i cx h1
      cases hc
      obtain ⟨ι, env1, H1, hE, hR, hX, hk⟩ := Wkn.run hk hE hR
      refine wpIn_mono (?_ : (Code.block id x).wpIn (FW ro) 0 P (PostR n ι H1 w Q) a w) fun _ _ _ => PostR.trans hX
      refine wpIn_block (wpIn_mono (ih cx h1 _ env1 H1 hk ι w a hE hR) ?_)
      rintro e a' w' ⟨x, ι', env', H', g1, g2, g3, g4, g5⟩
      cases x <;> cases e <;> simp only [exitR] at g1
      · exact ⟨.normal, ι', env', H', trivial, g2, g3, g4, g5⟩
      · subst g1
        simp only at g5
        rename_i j
        simp only [Exit.inBlock]
        by_cases hj : j = id
        · subst hj
          rw [if_pos rfl]
          have : Nat.beq j j = true := Nat.beq_refl j
          rw [this] at g5
          exact ⟨.normal, ι', env', H', trivial, g2, g3, g4, g5⟩
        · have : Nat.beq j id = false := Bool.eq_false_iff.2 fun e => hj (Nat.eq_of_beq_eq_true e)
          rw [this] at g5
          rw [if_neg hj]
          exact ⟨.exit j, ι', env', H', rfl, g2, g3, g4, g5⟩
      · exact ⟨.ret, ι', env', H', trivial, g2, g3, g4, g5⟩
    · cases hc
  | loop x ih =>
    intro cc hc Q env H hk ι w a hE hR
    simp only [comp] at hc
    split at hc
    · rename_i cx h1
      cases hc
      obtain ⟨ι, env1, H1, hE, hR, hX, hk⟩ := Wkn.run hk hE hR
      refine wpIn_mono (?_ : (Code.loop x).wpIn (FW ro) 0 P (PostR n ι H1 w Q) a w) fun _ _ _ => PostR.trans hX
      have hloop : LoopAt P n ro x Q env1 H1 := by
        refine hk (LoopAt P n ro x Q) ?_
        intro env H hbody ι w a hE hR b k cs hro hb hr
        obtain ⟨e, a1, w1, ⟨xx, ι', env', H', g1, g2, g3, g4, g5⟩, harr⟩ := ih cx h1 _ env H hbody ι w a hE hR b (.inLoop x :: k) cs hro hb hr
        cases xx <;> cases e <;> simp only [exitR] at g1
        · obtain ⟨ι2, env2, H2, g2, g3, hX2, g5⟩ := Wkn.run g5 g2 g3
          obtain ⟨e2, a2, w2, hq2, harr2⟩ := g5 ι2 w1 a1 g2 g3 b k cs hro hb hr
          exact ⟨e2, a2, w2, (PostR.trans hX2 hq2).trans g4, .of_steps (StepsIn.trans harr (.one (fenced_calm hb hr rfl) stepR_inLoop)) harr2⟩
        · subst g1
          exact ⟨.exit _, a1, w1, ⟨.exit _, ι', env', H', rfl, g2, g3, g4, g5⟩, .pass (x := .inLoop x) rfl (fun _ _ => .inl (by simp)) harr⟩
        · exact ⟨.ret, a1, w1, ⟨.ret, ι', env', H', trivial, g2, g3, g4, g5⟩, .pass (x := .inLoop x) rfl (fun _ _ => .inl (by simp)) harr⟩
      intro b k cs hro hb hr
      obtain ⟨e, a', w', hq, harr⟩ := hloop ι w a hE hR b k cs hro hb hr
      exact ⟨e, a', w', hq, .of_steps (.one (fenced_calm hb hr rfl) stepR_loop) harr⟩
    · cases hc
  | exit id =>
    intro cc hc Q env H hk ι w a hE hR
    simp only [comp] at hc; cases hc
    obtain ⟨ι, env', H', hE, hR, hX, hk⟩ := Wkn.run hk hE hR
    exact wpIn_exit (PostR.trans hX ⟨.exit id, ι, env', H', rfl, hE, hR, Ext.refl _ _ _, hk⟩)
  | ret =>
    intro cc hc Q env H hk ι w a hE hR
    simp only [comp] at hc; cases hc
    obtain ⟨ι, env', H', hE, hR, hX, hk⟩ := Wkn.run hk hE hR
    exact wpIn_ret (PostR.trans hX ⟨.ret, ι, env', H', trivial, hE, hR, Ext.refl _ _ _, hk⟩)
  | rangeFunc f ps x y _ _ => intro cc hc Q env H hk ι w a hE hR; simp only [comp] at hc; cases hc; exact (dead_no hk hE hR).elim
  | scope x _ => intro cc hc Q env H hk ι w a hE hR; simp only [comp] at hc; cases hc; exact (dead_no hk hE hR).elim
  | label l => intro cc hc Q env H hk ι w a hE hR; simp only [comp] at hc; cases hc; exact (dead_no hk hE hR).elim
  | goto l => intro cc hc Q env H hk ι w a hE hR; simp only [comp] at hc; cases hc; exact (dead_no hk hE hR).elim
  | refuse s => intro cc hc Q env H hk ι w a hE hR; simp only [comp] at hc; cases hc; exact (dead_no hk hE hR).elim

def resM (tmps : Array Value) (r : ResultVar) : Sem Value :=
  match r with
  | .tmp t => pure (tmps.getD t Go.undef)
  | .cell x t => do loadVar t (← asAddr (tmps.getD x Go.undef))

theorem results_eq (fn : Func) (tmps : Array Value) : results fn tmps = (do
    let vs ← fn.results.mapM (resM tmps)
    pure (if h : vs.size = 1 then vs[0] else .tuple vs)) := rfl

/-- A function's results. -/
theorem res_run {ι : Pl} {H : Heap} {w : World} {env : Env} {a : Act} (hE : EnvR n ι w env a) (hR : Rel ι H w) : ∀ {rs : List ResultVar} {cs : List Res} {vs : List V}, rs.mapM (compRes P n) = some cs → cs.mapM (Res.ev env H) = some vs →
    ∃ us : List Value, (rs.mapM (resM a.tmps)).run P w = .ok us w ∧ VRs ι w vs us
  | [], cs, vs, h1, h2 => by
    simp at h1; subst h1
    simp at h2; subst h2
    exact ⟨[], by simp, .nil⟩
  | r :: rs, cs, vs, h1, h2 => by
    rw [List.mapM_cons] at h1
    cases hr : compRes P n r with
    | none => simp [hr] at h1
    | some c =>
      cases hrs : rs.mapM (compRes P n) with
      | none => simp [hr, hrs] at h1
      | some cs' =>
        simp [hr, hrs] at h1
        subst h1
        rw [List.mapM_cons] at h2
        cases hv : c.ev env H with
        | none => simp [hv] at h2
        | some v =>
          cases hvs : cs'.mapM (Res.ev env H) with
          | none => simp [hv, hvs] at h2
          | some vs' =>
            simp [hv, hvs] at h2
            subst h2
            obtain ⟨us, g1, g2⟩ := res_run hE hR hrs hvs
            have key : ∃ u, (resM a.tmps r).run P w = .ok u w ∧ VR ι w v u := by
              cases r with
              | tmp t =>
                simp only [compRes] at hr
                cases hb : Nat.blt t n with
                | false => rw [hb] at hr; cases hr
                | true =>
                  rw [hb] at hr; cases hr
                  simp only [Res.ev] at hv; cases hv
                  exact ⟨_, rfl, hE.vals t (by simpa [Nat.blt, Nat.lt_iff_add_one_le] using hb)⟩
              | cell x t =>
                simp only [compRes] at hr
                cases hb : Nat.blt x n with
                | false => rw [hb] at hr; cases hr
                | true =>
                  rw [hb] at hr
                  have hx : compX n (.tmp x) = some (.t x) := by simp [compX, hb]
                  simp only [cond_true] at hr
                  have conv : ∀ {u : Value}, (Instr.loadAt t (a.eval (.tmp x))).run P w = .ok u w → ((do loadVar t (← asAddr (a.tmps.getD x Go.undef))) : Sem Value).run P w = .ok u w := by
                    intro u hu
                    have e : a.eval (.tmp x) = a.tmps.getD x Go.undef := rfl
                    rw [e] at hu
                    generalize a.tmps.getD x Go.undef = z at hu ⊢
                    cases z <;> simp only [Instr.loadAt, Instr.sureAddr, Sem.run_bind, run_stuck, Result.andThen_halt] at hu <;> first | (cases hu; done) | skip
                    rename_i ad
                    cases ad with
                    | none => simp at hu
                    | some ad => simpa [asAddr] using hu
                  split at hr <;> cases hr
                  · rename_i ha hs
                    obtain ⟨u, k1, k2⟩ := rd_loadn hE hR ha hs hx hv
                    exact ⟨u, conv k1, k2⟩
                  · rename_i ha hs
                    obtain ⟨u, k1, k2⟩ := rd_load1 hE hR ha hx hv
                    exact ⟨u, conv k1, k2⟩
            obtain ⟨u, k1, k2⟩ := key
            refine ⟨u :: us, ?_, .cons _ _ _ _ k2 g2⟩
            rw [List.mapM_cons]
            simp only [Sem.run_bind]
            rw [k1]
            simp only [Result.andThen_ok]
            rw [g1]
            simp

theorem ret_rel {ι : Pl} {w : World} {vs : List V} {us : List Value} (h : VRs ι w vs us) : VR ι w (retV vs) (if h : (⟨us⟩ : Array Value).size = 1 then (⟨us⟩ : Array Value)[0] else .tuple ⟨us⟩) := by
  cases h with
  | nil => simpa [retV] using VR.tup [] [] .nil
  | cons v u vs us hv ht =>
    cases ht with
    | nil => simpa [retV] using hv
    | cons v' u' vs us hv' ht => simpa [retV] using VR.tup _ _ (.cons _ _ _ _ hv (.cons _ _ _ _ hv' ht))

/-- A FUNCTION: what its operations come to is what its calls come to. -/
theorem F.sound (hm : P.follows .mixedOrders = true) {f : FuncId} {fn : Func} (hf : P.funcs[f]? = some fn) {cf : F} (hc : compF P fn = some cf) {args : List V} (hlen : args.length ≤ cf.n) {H : Heap} {Q : V → Heap → Prop} (hk : cf.wp P args H Q) :
    CallsC P f args H Q := by
  unfold compF at hc
  split at hc
  · rename_i c hb
    split at hc
    · rename_i cb rs h1 h2
      cases hname : fn.name == "runtime.NumGoroutine" with
      | true => rw [hname] at hc; cases hc
      | false =>
        rw [hname] at hc
        cases hc
        refine ⟨⟨fn, hf, hname, by rw [hb]; rfl⟩, fun ι w us hR hv => ?_⟩
        have hl := hv.length
        have hE : EnvR fn.ntmps ι w (env0 args) { tmps := ⟨us⟩ ++ Array.replicate (fn.ntmps - (⟨us⟩ : Array Value).size) Go.undef, defers := [] } := by
          simp only at hlen
          refine ⟨by simp; omega, rfl, fun t ht => ?_⟩
          simp only [env0]
          by_cases hta : t < args.length
          · obtain ⟨u, g1, g2⟩ := hv.get (i := t) (v := args[t]) (by simp [hta])
            have : ((⟨us⟩ : Array Value) ++ Array.replicate (fn.ntmps - (⟨us⟩ : Array Value).size) Go.undef).getD t Go.undef = u := by
              rw [Array.getD_eq_getD_getElem?, Array.getElem?_append_left (by simp; omega)]
              rw [← Array.getElem?_toList, g1]; rfl
            rw [this]
            simpa [hta] using g2
          · have : ((⟨us⟩ : Array Value) ++ Array.replicate (fn.ntmps - (⟨us⟩ : Array Value).size) Go.undef).getD t Go.undef = Go.undef := by
              rw [Array.getD_eq_getD_getElem?, Array.getElem?_append_right (by simp; omega), Array.getElem?_replicate]
              split <;> rfl
            rw [this, List.getElem?_eq_none (by omega)]
            exact VR.undef _ _
        refine calls_of_wp hf hb (wp_mono (wpIn_wide.1 (C.sound hm none c cb h1 _ _ _ hk ι w _ hE hR)) ?_)
        rintro e a' w' ⟨x, ι', env', H', g1, g2, g3, g4, hx, vs, g5, g6⟩
        obtain ⟨us', k1, k2⟩ := res_run (P := P) g2 g3 h2 g5
        have hres : (results fn a'.tmps).run P w' = .ok (if h : (⟨us'⟩ : Array Value).size = 1 then (⟨us'⟩ : Array Value)[0] else .tuple ⟨us'⟩) w' := by
          rw [results_eq, Array.mapM_eq_mapM_toList]
          simp only [Sem.run_bind, Sem.run_map]
          rw [k1]
          simp
        have fin : a'.defers = [] ∧ ∃ v, (results fn a'.tmps).run P w' = .ok v w' ∧ ∃ (ι' : Pl) (H' : Heap) (v_1 : V) (u : Value), Ending.returned v = .returned u ∧ VR ι' w' v_1 u ∧ Rel ι' H' w' ∧ Ext ι H w ι' H' w' ∧ Q v_1 H' :=
          ⟨g2.defers, _, hres, ι', H', retV vs, _, rfl, ret_rel k2, g3, g4, g6⟩
        rcases hx with rfl | rfl
        · cases e <;> simp only [exitR] at g1
          exact fin
        · cases e <;> simp only [exitR] at g1
          exact fin
    · cases hc
  · cases hc

end
end Go.CM
