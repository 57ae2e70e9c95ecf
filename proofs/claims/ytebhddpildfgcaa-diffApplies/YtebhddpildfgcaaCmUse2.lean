/-
  A program logic over the model's calls, part 22: the rules by which a walk goes.
-/
import Derived.Test.YtebhddpildfgcaaCmUse
namespace Go.CM

theorem C.mono {P : Program} : ∀ {c : C} {Q Q' : Ex → Env → Heap → Prop} {env : Env} {H : Heap}, (∀ x env H, Q x env H → Q' x env H) → c.wp P Q env H → c.wp P Q' env H := by
  intro c
  induction c with
  | skip => intro Q Q' env H hq h; exact Wkn.mono h (hq _)
  | ops l => intro Q Q' env H hq h; exact Wkn.mono h fun _ _ h => wpOps_mono (fun e H' hk => hq _ _ _ hk) h
  | seq a b iha ihb =>
    intro Q Q' env H hq h
    refine Wkn.mono h fun env H h => iha (Q := fun x env H => match x with | .normal => b.wp P Q env H | x => Q x env H) ?_ h
    intro x env H hx
    cases x with
    | normal => exact ihb hq hx
    | exit j => exact hq _ _ _ hx
    | ret => exact hq _ _ _ hx
  | cond x a b iha ihb =>
    intro Q Q' env H hq h
    refine Wkn.mono h fun env H h => ?_
    unfold bcond at h ⊢
    split at h
    · exact iha hq h
    · exact ihb hq h
    · exact h
  | block id a iha =>
    intro Q Q' env H hq h
    refine Wkn.mono h fun env H h => iha (Q := fun x env H => match x with | .exit j => (bif Nat.beq j id then Q .normal env H else Q (.exit j) env H) | x => Q x env H) ?_ h
    intro x env H hx
    cases x with
    | normal => exact hq _ _ _ hx
    | exit j =>
      simp only at hx ⊢
      cases hb : Nat.beq j id with
      | true => rw [hb] at hx; exact hq _ _ _ hx
      | false => rw [hb] at hx; exact hq _ _ _ hx
    | ret => exact hq _ _ _ hx
  | loop a iha =>
    intro Q Q' env H hq h
    refine Wkn.mono h fun env H h J hJ => ?_
    refine h J fun env H hx => hJ env H (iha (Q := fun x env H => match x with | .normal => Wkn env H J | x => Q x env H) ?_ hx)
    intro x env H hx
    cases x with
    | normal => exact hx
    | exit j => exact hq _ _ _ hx
    | ret => exact hq _ _ _ hx
  | exit id => intro Q Q' env H hq h; exact Wkn.mono h (hq _)
  | ret => intro Q Q' env H hq h; exact Wkn.mono h (hq _)

theorem HWk.trans {A B C : Heap} (h : HWk A B) (k : HWk B C) : HWk A C := fun id => by
  rcases h id with ⟨h1, h2⟩ | ⟨o, o', h1, h2, h3⟩
  · rcases k id with ⟨k1, k2⟩ | ⟨p, p', k1, k2, k3⟩
    · exact .inl ⟨h1, k2⟩
    · rw [h2] at k1; cases k1
  · rcases k id with ⟨k1, k2⟩ | ⟨p, p', k1, k2, k3⟩
    · rw [h2] at k1; cases k1
    · rw [h2] at k1; cases k1
      refine .inr ⟨o, p', h1, k2, ?_⟩
      cases h3 with
      | same => exact k3
      | cells cs cs' h =>
        cases k3 with
        | same => exact .cells _ _ h
        | cells _ cs2 h' =>
          refine .cells _ _ ⟨Nat.le_trans h'.1 h.1, fun i v v2 g1 g2 => ?_⟩
          have hlt : i < cs'.length := Nat.lt_of_lt_of_le (List.getElem?_eq_some_iff.1 g2).1 h'.1
          exact (h.2 i v cs'[i] g1 (by simp [hlt])).trans (h'.2 i cs'[i] v2 (by simp [hlt]) g2)
      | map es es' hk hv =>
        cases k3 with
        | same => exact .map _ _ hk hv
        | map _ es2 hk' hv' =>
          refine .map _ _ (hk.trans hk') ⟨hv.1.trans hv'.1, fun i v v2 g1 g2 => ?_⟩
          have hlt : i < (es'.map (·.2)).length := by rw [← hv.1]; exact (List.getElem?_eq_some_iff.1 g1).1
          exact (hv.2 i v _ g1 (List.getElem?_eq_getElem hlt)).trans (hv'.2 i _ v2 (List.getElem?_eq_getElem hlt) g2)
      | mapS es es' bs clk hk hv =>
        cases k3 with
        | same => exact .mapS _ _ _ _ hk hv
        | map _ es2 hk' hv' =>
          refine .mapS _ _ _ _ (hk.trans hk') ⟨hv.1.trans hv'.1, fun i v v2 g1 g2 => ?_⟩
          have hlt : i < (es'.map (·.2)).length := by rw [← hv.1]; exact (List.getElem?_eq_some_iff.1 g1).1
          exact (hv.2 i v _ g1 (List.getElem?_eq_getElem hlt)).trans (hv'.2 i _ v2 (List.getElem?_eq_getElem hlt) g2)
theorem Wkn.trans {env env' : Env} {H H' : Heap} {K : Env → Heap → Prop} (h1 : ∀ t, Wk (env t) (env' t)) (h2 : HWk H H') (h : Wkn env' H' K) : Wkn env H K := .weak h1 h2 h
theorem Wkn.bind {env : Env} {H : Heap} {K K' : Env → Heap → Prop} (h : Wkn env H K) (hk : ∀ e H, K e H → Wkn e H K') : Wkn env H K' := by
  induction h with
  | here h => exact hk _ _ h
  | weak h1 h2 _ ih => exact .weak h1 h2 (ih hk)
  | base hs hH ho _ ih => exact .base hs hH ho fun id' h0 hn => ih id' h0 hn hk
  | nilx hs _ _ ih1 ih2 => exact .nilx hs (ih1 hk) (ih2 hk)
  | capx hs _ ih => exact .capx hs fun cap hc => ih cap hc hk
/-- An object said with less. -/
theorem Has.wk {H : Heap} {L L' : List Ob} (h : Has H L) {id : Nat} {o o' : HObj} (h0 : id ≠ 0) (hu : Upd (id, o) [(id, o')] L L') (hw : OWk o o') : ∃ H', HWk H H' ∧ Has H' L' :=
  ⟨H.set id o', HWk.set (h.get hu.at h0) hw, h.set h0 hu⟩
theorem CEnds.obj {Q : V → List Ob → Prop} {v : V} {H : Heap} {L L' : List Ob} (hh : Has H L) {id : Nat} {cs cs' : List V} (hu : Upd (id, .cells true cs) [(id, .cells true cs')] L L') (hw : Wkp cs cs') (hc : cs ≠ [])
    (k : ∀ H', Has H' L' → CEnds Q v H') : CEnds Q v H := by
  obtain ⟨H', h1, h2⟩ := hh.wk (hh.ne0 hu.at hc) hu (.cells _ _ hw)
  obtain ⟨v2, L2, H2, g1, g2, g3, g4⟩ := k H' h2
  exact ⟨v2, L2, H2, g1, h1.trans g2, g3, g4⟩

theorem Wkp.pre (cs cs' : List V) : Wkp (cs ++ cs') cs := ⟨by simp, fun k v v' h h' => by
  have := (List.getElem?_eq_some_iff.1 h').1
  rw [List.getElem?_append_left this] at h
  rw [h] at h'; cases h'; exact Wk.refl v⟩
theorem Wks.wkp {cs cs' : List V} (h : Wks cs cs') : Wkp cs cs' := ⟨Nat.le_of_eq h.1.symm, h.2⟩
/-- A function's end, where a row is said to be shorter. -/
theorem CEnds.cut {Q : V → List Ob → Prop} {v : V} {H : Heap} {L L' : List Ob} (hh : Has H L) {id : Nat} {cs cs' : List V} (hu : Upd (id, .cells true (cs ++ cs')) [(id, .cells true cs)] L L') (hc : cs ++ cs' ≠ []) (k : ∀ H', Has H' L' → CEnds Q v H') : CEnds Q v H :=
  CEnds.obj hh hu (Wkp.pre cs cs') hc k
/-- Code from slots and objects that are said with less. -/
theorem C.wk {P : Program} {c : C} {Q : Ex → Env → Heap → Prop} {env env' : Env} {H H' : Heap} (h1 : ∀ t, Wk (env t) (env' t)) (h2 : HWk H H') (h : c.wp P Q env' H') : c.wp P Q env H := by
  cases c <;> exact Wkn.trans h1 h2 h

theorem C.join {P : Program} {c : C} {Q : Ex → Env → Heap → Prop} {env : Env} {H : Heap} (h : Wkn env H fun e H => c.wp P Q e H) : c.wp P Q env H := by
  cases c <;> exact Wkn.bind h fun _ _ h => h
/-- A slice's row under a new name, from the slice's first cell on. -/
theorem c_base {P : Program} {c : C} {Q : Ex → Env → Heap → Prop} {env : Env} {H : Heap} {L : List Ob} {L' : Nat → List Ob} {id off len e : Nat} {cs cs' : List V} (s : Nat) (hh : Has H L) (hs : env s = .slice id off len e)
    (hu : ∀ id', Upd (id, .cells true cs) [(id', .cells true cs')] L (L' id')) (hd : cs.drop off = cs') (ho : off ≤ cs.length) (hc : cs ≠ [])
    (k : ∀ id' H', Has H' (L' id') → c.wp P Q (env.put (some s) (.slice id' 0 len e)) H') : c.wp P Q env H := by
  subst hd
  have h0 := hh.ne0 (hu 0).at hc
  refine C.join (.base hs (hh.get (hu 0).at h0) ho fun id' h0' hid => .here (k id' _ (hh.move h0 h0' (hu id') ?_)))
  by_cases h : id' = id
  · subst h; exact Heap.del_same _ _
  · rw [Heap.del_ne _ h]; exact hid

theorem F.mono {P : Program} {cf : F} {args : List V} {H : Heap} {Q Q' : V → Heap → Prop} (hq : ∀ v H, Q v H → Q' v H) (h : cf.wp P args H Q) : cf.wp P args H Q' :=
  C.mono (fun _ _ _ ⟨h1, vs, h2, h3⟩ => ⟨h1, vs, h2, hq _ _ h3⟩) h

theorem CallsL.intro {P : Program} (hm : P.follows .mixedOrders = true) {f : FuncId} {fn : Func} (hf : P.funcs[f]? = some fn) {cf : F} (hc : compF P fn = some cf) {args : List V} (hlen : args.length ≤ cf.n) {L : List Ob} {Q : V → List Ob → Prop}
    (hk : ∀ H, Has H L → cf.wp P args H (CEnds Q)) : CallsL P f args L Q :=
  fun H hh => CallsC.wkRes (F.sound hm hf hc hlen (F.mono (fun _ _ ⟨v', L', H2, h1, h2, h3, h4⟩ => ⟨v', H2, h1, h2, L', h3, h4⟩) (hk H hh)))

def kSeq (P : Program) (b : C) (Q : Ex → Env → Heap → Prop) : Ex → Env → Heap → Prop := fun x env H => match x with
  | .normal => b.wp P Q env H
  | x => Q x env H
def kBlk (id : Nat) (Q : Ex → Env → Heap → Prop) : Ex → Env → Heap → Prop := fun x env H => match x with
  | .exit j => (bif Nat.beq j id then Q .normal env H else Q (.exit j) env H)
  | x => Q x env H
def kLoop (J : Env → Heap → Prop) (Q : Ex → Env → Heap → Prop) : Ex → Env → Heap → Prop := fun x env H => match x with
  | .normal => Wkn env H J
  | x => Q x env H
def kEnd (res : List Res) (Q : V → Heap → Prop) : Ex → Env → Heap → Prop := fun x env H => (x = .normal ∨ x = .ret) ∧ ∃ vs, res.mapM (Res.ev env H) = some vs ∧ Q (retV vs) H

section
variable {P : Program} {env : Env} {H : Heap} {Q : Ex → Env → Heap → Prop} {L : List Ob}

theorem f_start {f : F} {args : List V} {Q : V → Heap → Prop} {res : List Res} (hr : f.res = res) {c : C} (hb : f.body = c) (h : c.wp P (kEnd res Q) (env0 args) H) : f.wp P args H Q := by
  subst hr hb; exact h
theorem f_ret {res : List Res} {Q : V → Heap → Prop} {vs : List V} (hr : res.mapM (Res.ev env H) = some vs) (hq : Q (retV vs) H) : kEnd res Q .ret env H := ⟨.inr rfl, vs, hr, hq⟩
theorem f_nrm {res : List Res} {Q : V → Heap → Prop} {vs : List V} (hr : res.mapM (Res.ev env H) = some vs) (hq : Q (retV vs) H) : kEnd res Q .normal env H := ⟨.inl rfl, vs, hr, hq⟩
theorem f_ret1 {n : Nat} {Q : V → Heap → Prop} {v : V} (hv : env n = v) (hq : Q v H) : kEnd [.t n] Q .ret env H := ⟨.inr rfl, [v], by subst hv; rfl, hq⟩
theorem f_ret2 {n m : Nat} {Q : V → Heap → Prop} {v v' : V} (hv : env n = v) (hv' : env m = v') (hq : Q (.tup [v, v']) H) : kEnd [.t n, .t m] Q .ret env H := ⟨.inr rfl, [v, v'], by subst hv hv'; rfl, hq⟩
theorem res_nil : ([] : List Res).mapM (Res.ev env H) = some [] := rfl
theorem res_cons {r : Res} {rs : List Res} {v : V} {vs : List V} (h : r.ev env H = some v) (t : rs.mapM (Res.ev env H) = some vs) : (r :: rs).mapM (Res.ev env H) = some (v :: vs) := by
  simp [List.mapM_cons, h, t]

theorem c_skip (h : Q .normal env H) : C.wp P .skip Q env H := .here h
theorem c_ops {l : List I} (h : wpOps P l env H (Q .normal)) : C.wp P (.ops l) Q env H := .here h
theorem c_seq {a b : C} (h : a.wp P (kSeq P b Q) env H) : C.wp P (.seq a b) Q env H := .here h
theorem c_block {id : Nat} {a : C} (h : a.wp P (kBlk id Q) env H) : C.wp P (.block id a) Q env H := .here h
theorem c_exit {id : Nat} (h : Q (.exit id) env H) : C.wp P (.exit id) Q env H := .here h
theorem c_ret (h : Q .ret env H) : C.wp P .ret Q env H := .here h
theorem c_cond_t {x : X} {a b : C} (hx : x.ev env = .bool true) (h : a.wp P Q env H) : C.wp P (.cond x a b) Q env H := .here (by simp only [hx, bcond]; exact h)
theorem c_cond_f {x : X} {a b : C} (hx : x.ev env = .bool false) (h : b.wp P Q env H) : C.wp P (.cond x a b) Q env H := .here (by simp only [hx, bcond]; exact h)
theorem c_cond {x : X} {a b : C} {c : Bool} (hx : x.ev env = .bool c) (ht : c = true → a.wp P Q env H) (hf : c = false → b.wp P Q env H) : C.wp P (.cond x a b) Q env H := by
  cases c with
  | true => exact c_cond_t hx (ht rfl)
  | false => exact c_cond_f hx (hf rfl)

theorem k_seq_n {b : C} (h : b.wp P Q env H) : kSeq P b Q .normal env H := h
theorem k_seq_e {b : C} {j : Nat} (h : Q (.exit j) env H) : kSeq P b Q (.exit j) env H := h
theorem k_seq_r {b : C} (h : Q .ret env H) : kSeq P b Q .ret env H := h
theorem k_blk_n {id : Nat} (h : Q .normal env H) : kBlk id Q .normal env H := h
theorem k_blk_x {id : Nat} (h : Q .normal env H) : kBlk id Q (.exit id) env H := by
  simp only [kBlk, Nat.beq_refl, cond_true]; exact h
theorem k_blk_e {id j : Nat} (hne : Nat.beq j id = false) (h : Q (.exit j) env H) : kBlk id Q (.exit j) env H := by
  simp only [kBlk, hne, cond_false]; exact h
theorem k_blk_r {id : Nat} (h : Q .ret env H) : kBlk id Q .ret env H := h
theorem k_loop_n {J : Env → Heap → Prop} (h : J env H) : kLoop J Q .normal env H := .here h
theorem k_loop_w {J : Env → Heap → Prop} (h : Wkn env H J) : kLoop J Q .normal env H := h
theorem k_loop_e {J : Env → Heap → Prop} {j : Nat} (h : Q (.exit j) env H) : kLoop J Q (.exit j) env H := h
theorem k_loop_r {J : Env → Heap → Prop} (h : Q .ret env H) : kLoop J Q .ret env H := h

/-- Slots laid over an environment. -/
def puts : List Nat → List V → Env → Env
  | s :: ss, v :: vs, e => Env.put (puts ss vs e) (some s) v
  | _, _, e => e

theorem puts_self : ∀ (sl : List Nat) (env : Env), puts sl (sl.map env) env = env
  | [], env => rfl
  | s :: ss, env => by
    simp only [List.map_cons, puts, puts_self ss env]
    funext t
    simp only [Env.put]
    cases h : Nat.beq t s with
    | true => rw [Nat.eq_of_beq_eq_true h]; rfl
    | false => rfl

theorem puts_wk : ∀ {sl : List Nat} {vs : List V} {env : Env}, Wks (sl.map env) vs → ∀ t, Wk (env t) (puts sl vs env t)
  | [], vs, env, _, t => by cases vs <;> exact Wk.refl _
  | s :: ss, [], env, h, t => by simp [Wks] at h
  | s :: ss, v :: vs, env, h, t => by
    have h1 : Wk (env s) v := h.2 0 _ _ rfl rfl
    have h2 : Wks (ss.map env) vs := ⟨by have := h.1; simpa using this, fun k a b ha hb => h.2 (k + 1) a b (by simpa using ha) (by simpa using hb)⟩
    simp only [puts, Env.put]
    cases ht : Nat.beq t s with
    | true => rw [Nat.eq_of_beq_eq_true ht]; exact h1
    | false => exact puts_wk h2 t

/-- A LOOP: of chosen slots an invariant, with a number that falls; what holds ahead of it may be said with less. -/
theorem c_loop {a : C} (sl : List Nat) (I : Nat → List V → Heap → Prop) (n : Nat) (h0 : ∃ vs H', Wks (sl.map env) vs ∧ HWk H H' ∧ I n vs H')
    (step : ∀ (n : Nat) (vs : List V) (e : Env) (H : Heap), I n vs H → a.wp P (kLoop (fun env' H' => ∃ m vs' H2, m < n ∧ Wks (sl.map env') vs' ∧ HWk H' H2 ∧ I m vs' H2) Q) (puts sl vs e) H) : C.wp P (.loop a) Q env H := by
  obtain ⟨vs, H', hw, hh, h0⟩ := h0
  refine .weak (puts_wk hw) hh (.here ?_)
  intro J hJ
  have key : ∀ (n : Nat) (vs : List V) (e : Env) (H : Heap), I n vs H → J (puts sl vs e) H := by
    intro n
    induction n using Nat.strongRecOn with
    | _ n ih =>
      intro vs e H h0
      refine hJ _ H (C.mono ?_ (step n vs e H h0))
      intro x env' H' hk
      cases x with
      | normal =>
        exact Wkn.bind hk fun e1 H1 ⟨m, vs', H2, hm, g3, g4, g5⟩ => .weak (puts_wk g3) g4 (.here (ih m hm vs' e1 H2 g5))
      | exit j => exact hk
      | ret => exact hk
  exact key n vs env H' h0

/-- A slot's value, said otherwise. -/
theorem c_slot {c : C} {s : Nat} {v : V} (hs : env s = v) (h : c.wp P Q (env.put (some s) v) H) : c.wp P Q env H := by
  have : env.put (some s) v = env := by
    funext t
    simp only [Env.put]
    cases ht : Nat.beq t s with
    | true => rw [Nat.eq_of_beq_eq_true ht, hs]; rfl
    | false => rfl
  rwa [this] at h

variable {K : Env → Heap → Prop} {d : Option Nat} {x : Kx} {is : List I}

theorem wps_nil (h : K env H) : wpOps P [] env H K := h
theorem wps_slot {l : List I} {s : Nat} {v : V} (hs : env s = v) (h : wpOps P l (env.put (some s) v) H K) : wpOps P l env H K := by
  have : env.put (some s) v = env := by
    funext t
    simp only [Env.put]
    cases ht : Nat.beq t s with
    | true => rw [Nat.eq_of_beq_eq_true ht, hs]; rfl
    | false => rfl
  rwa [this] at h
theorem wps_rd {r : R} {v : V} (h : r.ev env H = some v) (k : wpOps P is (env.put d v) H K) : wpOps P (⟨d, .rd r, none, x⟩ :: is) env H K :=
  ⟨v, h, Kx.refl, k⟩
/-- .. whose value is a struct, laid out cell by cell. -/
theorem wps_rda {r : R} {l l' : List V} (h : r.ev env H = some (.agg l)) (hl : l = l') (k : wpOps P is (env.put d (.agg l')) H K) : wpOps P (⟨d, .rd r, none, x⟩ :: is) env H K :=
  wps_rd h (hl ▸ k)
theorem wps_gt {o : O} {s : Nat} {b : Bool} (h : env s = .bool b) (k : wpOps P (⟨d, o, none, x⟩ :: is) env H K) : wpOps P (⟨d, o, some (s, b), x⟩ :: is) env H K := by
  simp only [wpOps, I.wp, h, gcond, beq_self_eq_true, cond_true]; exact k
theorem wps_gf {o : O} {s : Nat} {b : Bool} (h : env s = .bool (!b)) (k : wpOps P is (env.put d V.undef) H K) : wpOps P (⟨d, o, some (s, b), x⟩ :: is) env H K := by
  simp only [wpOps, I.wp, h, gcond]
  cases b <;> exact k
theorem wps_gu {o : O} {s : Nat} {b : Bool} (h : env s = V.undef) (k : wpOps P is (env.put d V.undef) H K) : wpOps P (⟨d, o, some (s, b), x⟩ :: is) env H K := by
  simp only [wpOps, I.wp, h, V.undef, gcond]; exact k
/-- A slot's bool, both ways. -/
theorem wps_split {l : List I} (s : Nat) {c : Bool} (h : env s = .bool c) (ht : c = true → wpOps P l (env.put (some s) (.bool true)) H K) (hf : c = false → wpOps P l (env.put (some s) (.bool false)) H K) : wpOps P l env H K := by
  cases c with
  | true => exact wps_slot h (ht rfl)
  | false => exact wps_slot h (hf rfl)
theorem wps_gs {o : O} {s : Nat} {b c : Bool} (h : env s = .bool c) (ht : c = true → wpOps P (⟨d, o, some (s, b), x⟩ :: is) (env.put (some s) (.bool true)) H K)
    (hf : c = false → wpOps P (⟨d, o, some (s, b), x⟩ :: is) (env.put (some s) (.bool false)) H K) : wpOps P (⟨d, o, some (s, b), x⟩ :: is) env H K := wps_split s h ht hf
theorem wps_pk {s : Nat} {a b : X} {c : Bool} (h : env s = .bool c) (ht : c = true → wpOps P (⟨d, .rd (.pick (.t s) a b), none, x⟩ :: is) (env.put (some s) (.bool true)) H K)
    (hf : c = false → wpOps P (⟨d, .rd (.pick (.t s) a b), none, x⟩ :: is) (env.put (some s) (.bool false)) H K) : wpOps P (⟨d, .rd (.pick (.t s) a b), none, x⟩ :: is) env H K := wps_split s h ht hf
theorem cells_ne {cs : List V} {off : Nat} {v : V} (h : cs[off]? = some v) : cs ≠ [] := fun e => by subst e; simp at h
theorem getCells_ne {cs vs : List V} {off n : Nat} (h : getCells cs off (n + 1) = some vs) : cs ≠ [] := fun e => by
  subst e
  have : Nat.ble (off + (n + 1)) ([] : List V).length = false := Bool.eq_false_iff.2 fun hb => by have := Nat.le_of_ble_eq_true hb; simp at this
  simp only [getCells, this, cond_false] at h; cases h
theorem wps_ld (hh : Has H L) {a : X} {id off : Nat} {b : Bool} {cs : List V} {v : V} (ha : a.ev env = .ptr id off) (hi : At (id, .cells b cs) L) (hv : cs[off]? = some v) (k : wpOps P is (env.put d v) H K) :
    wpOps P (⟨d, .rd (.load1 a), none, x⟩ :: is) env H K :=
  wps_rd (by simp only [R.ev, ha, hh.getc hi.mem (cells_ne hv)]; exact hv) k
theorem wps_ldn (hh : Has H L) {a : X} {id off n : Nat} {b : Bool} {cs vs vs' : List V} (ha : a.ev env = .ptr id off) (hi : At (id, .cells b cs) L) (hv : getCells cs off (n + 1) = some vs) (hl : vs = vs') (k : wpOps P is (env.put d (.agg vs')) H K) :
    wpOps P (⟨d, .rd (.loadn (n + 1) a), none, x⟩ :: is) env H K :=
  wps_rd (by simp only [R.ev, ha, hh.getc hi.mem (getCells_ne hv), hv, hl]) k
theorem getCells_all {cs : List V} {n : Nat} (h : cs.length = n) : getCells cs 0 n = some cs := by
  subst h
  have : Nat.ble (0 + cs.length) cs.length = true := Nat.ble_eq_true_of_le (by omega)
  simp only [getCells, this, cond_true, List.drop_zero, List.take_length]
/-- The whole object. -/
theorem wps_lda (hh : Has H L) {a : X} {id n : Nat} {b : Bool} {cs : List V} (ha : a.ev env = .ptr id 0) (hi : At (id, .cells b cs) L) (hv : cs.length = n + 1) (k : wpOps P is (env.put d (.agg cs)) H K) :
    wpOps P (⟨d, .rd (.loadn (n + 1) a), none, x⟩ :: is) env H K :=
  wps_ldn hh ha hi (getCells_all hv) rfl k
theorem wps_lenMap (hh : Has H L) {a : X} {id : Nat} {es : List (V × V)} (ha : a.ev env = .map id) (hi : At (id, .map es) L) (k : wpOps P is (env.put d (.int .i64 es.length)) H K) :
    wpOps P (⟨d, .rd (.lenMap a), none, x⟩ :: is) env H K :=
  wps_rd (by simp only [R.ev, ha, hh.getm hi.mem]) k
theorem wps_alloc (hh : Has H L) {z : List V} (k : ∀ id H', Has H' ((id, .cells true z) :: L) → wpOps P is (env.put d (.ptr id 0)) H' K) : wpOps P (⟨d, .ef (.alloc z), none, x⟩ :: is) env H K :=
  fun id h0 hid => ⟨Kx.le (Heap.le_set _ hid), k id _ (hh.new h0 hid)⟩
theorem wps_box (hh : Has H L) {y : X} {v : V} (hy : y.ev env = v) (ht : v.isTup = false) {cs : List V} (hc : v.cells = cs) (k : ∀ id H', Has H' ((id, .cells true cs) :: L) → wpOps P is (env.put d (.ptr id 0)) H' K) : wpOps P (⟨d, .ef (.box y), none, x⟩ :: is) env H K := by
  subst hy hc
  exact ⟨ht, fun id h0 hid => ⟨Kx.le (Heap.le_set _ hid), k id _ (hh.new h0 hid)⟩⟩
theorem wps_lit (hh : Has H L) {esz len : Nat} {z cs cs' : List V} {ps : List (Nat × Nat × X)} (hf : fillV env z ps = some cs) (hl : cs = cs') (k : ∀ id H', Has H' ((id, .cells true cs') :: L) → wpOps P is (env.put d (.slice id 0 len esz)) H' K) : wpOps P (⟨d, .ef (.lit esz len z ps), none, x⟩ :: is) env H K := by
  subst hl
  exact ⟨cs, hf, fun id h0 hid => ⟨Kx.le (Heap.le_set _ hid), k id _ (hh.new h0 hid)⟩⟩
theorem splice_all {cs vs : List V} (h : cs.length = vs.length) : splice cs 0 vs = vs := by
  simp [splice, ← h]
theorem fill1 {sz : Nat} {z cs : List V} {y : X} {v : V} (hy : y.ev env = v) (ht : v.isTup = false) (hc : v.cells = cs) (hn : cs.length = sz) (hz : z.length = sz) : fillV env z [(0, sz, y)] = some cs := by
  subst hy hc
  have h1 : Nat.beq (y.ev env).cells.length sz = true := by rw [hn]; exact Nat.beq_refl _
  have h2 : Nat.ble (0 + sz) z.length = true := Nat.ble_eq_true_of_le (by omega)
  simp only [fillV, ht, h1, h2, Bool.not_true, Bool.or_false, cond_false]
  rw [splice_all (by omega)]
theorem wps_lit1 (hh : Has H L) {esz sz : Nat} {z cs : List V} {y : X} {v : V} (hy : y.ev env = v) (ht : v.isTup = false) (hc : v.cells = cs) (hn : cs.length = sz) (hz : z.length = sz)
    (k : ∀ id H', Has H' ((id, .cells true cs) :: L) → wpOps P is (env.put d (.slice id 0 1 esz)) H' K) : wpOps P (⟨d, .ef (.lit esz 1 z [(0, sz, y)]), none, x⟩ :: is) env H K :=
  wps_lit hh (fill1 hy ht hc hn hz) rfl k
theorem wps_mkMap (hh : Has H L) (k : ∀ id H', Has H' ((id, .map []) :: L) → wpOps P is (env.put d (.map id)) H' K) : wpOps P (⟨d, .ef .mkMap, none, x⟩ :: is) env H K :=
  fun id h0 hid => ⟨Kx.le (Heap.le_set _ hid), k id _ (hh.new h0 hid)⟩
theorem wps_mkSl (hh : Has H L) {esz bytes : Nat} {z : List V} {l c : X} {kl kc : IntKind} {nl nc : Int} (hl : l.ev env = .int kl nl) (hc : c.ev env = .int kc nc) (hb : 0 ≤ nl ∧ nl ≤ nc ∧ nc ≤ 140737488355328 ∧ nc * bytes ≤ 140737488355328)
    (k : ∀ id H', Has H' ((id, .cells true (rep z nc.toNat)) :: L) → wpOps P is (env.put d (.slice id 0 nl.toNat esz)) H' K) : wpOps P (⟨d, .ef (.mkSl esz bytes z l c), none, x⟩ :: is) env H K :=
  ⟨kl, nl, kc, nc, hl, hc, hb.1, hb.2.1, hb.2.2.1, hb.2.2.2, fun id h0 hid => ⟨Kx.le (Heap.le_set _ hid), k id _ (hh.new h0 hid)⟩⟩
theorem wps_store (hh : Has H L) {n : Nat} {a y : X} {id off : Nat} {cs cs' vs : List V} {v : V} {L' : List Ob} (ha : a.ev env = .ptr id off) (hy : y.ev env = v) (ht : v.isTup = false) (hc : v.cells = vs) (hn : vs.length = n + 1)
    (hu : Upd (id, .cells true cs) [(id, .cells true cs')] L L') (hb : off + (n + 1) ≤ cs.length) (hs : splice cs off vs = cs') (k : ∀ H', Has H' L' → wpOps P is (env.put d V.undef) H' K) : wpOps P (⟨d, .ef (.store (n + 1) a y), none, .no⟩ :: is) env H K := by
  subst hy hc hs
  have hne : cs ≠ [] := fun e => by subst e; simp at hb
  exact ⟨id, off, cs, ha, hh.getc hu.at hne, ht, hn, hb, ⟨trivial, k _ (hh.set (hh.ne0 hu.at hne) hu)⟩⟩
theorem sp_nil {α : Type} {l : List α} (h : l = []) : l = [] := h
theorem sp_cons {α : Type} {l l1 l1' : List α} {a a' : α} (h : l = a :: l1) (ha : a = a') (t : l1 = l1') : l = a' :: l1' := by
  subst ha t; exact h
theorem src_slice (hh : Has H L) {id off len esz : Nat} {b : Bool} {cs vs : List V} (hj : At (id, .cells b cs) L) (hg : getCells cs off (len * (esz + 1)) = some vs) : srcCells H (esz + 1) (.slice id off len (esz + 1)) = some (len, vs) := by
  cases len with
  | zero =>
    have := (getCells_some hg).2
    simp [srcCells, this]
  | succ len =>
    refine srcCells_slice (hh.getc hj.mem fun e => ?_) hg
    subst e
    have : (len + 1) * (esz + 1) = (len * (esz + 1) + esz) + 1 := by rw [Nat.succ_mul]; omega
    rw [this] at hg
    exact getCells_ne hg rfl
theorem src_none {esz : Nat} : srcCells H esz .nils = some (0, []) := rfl
theorem src_zero {esz id off e : Nat} : srcCells H esz (.slice id off 0 e) = some (0, []) := rfl
theorem src_str {s : List UInt8} : srcCells H 1 (.str s) = some (s.length, s.map fun b => .int .u8 b.toNat) := rfl
theorem srcCells_zero {esz : Nat} {v : V} {vs : List V} (hs : srcCells H esz v = some (0, vs)) : vs = [] := by
  cases v with
  | nils => cases hs; rfl
  | slice id off len e =>
    cases hz : Nat.beq len 0 with
    | true => simp only [srcCells, hz, cond_true] at hs; cases hs; rfl
    | false =>
      simp only [srcCells, hz, cond_false] at hs
      split at hs
      · split at hs
        · split at hs
          · cases hs; cases hz
          · cases hs
        · cases hs
      · cases hs
  | sliceC id off len cap e =>
    cases hz : Nat.beq len 0 with
    | true => simp only [srcCells, hz, cond_true] at hs; cases hs; rfl
    | false =>
      simp only [srcCells, hz, cond_false] at hs
      split at hs
      · split at hs
        · split at hs
          · cases hs; cases hz
          · cases hs
        · cases hs
      · cases hs
  | str s =>
    simp only [srcCells] at hs
    split at hs
    · cases s with
      | nil => cases hs; rfl
      | cons => simp at hs
    · cases hs
  | _ => cases hs
/-- An append of something to what may be nil, or a row. -/
theorem wps_app (hh : Has H L) {esz bytes m id len : Nat} {a y : X} {cs vs : List V} {L' : Nat → List Ob} (ha : a.ev env = .slice id 0 len (esz + 1)) (hu : ∀ id', Upd (id, .cells true cs) [(id', .cells true (cs ++ vs))] L (L' id')) (hs : srcCells H (esz + 1) (y.ev env) = some (m, vs))
    (hl : cs.length = len * (esz + 1)) (hb : (len + m) * bytes ≤ 140737488355328)
    (k : ∀ id' H', Has H' (L' id') → wpOps P is (env.put d (.slice id' 0 (len + m) (esz + 1))) H' K) : wpOps P (⟨d, .ef (.app (esz + 1) bytes a y), none, .no⟩ :: is) env H K := by
  refine ⟨m, vs, hs, .inr ?_⟩
  by_cases h0 : id = 0
  · subst h0
    obtain ⟨b, hz⟩ := hh.zero _ (hu 0).at rfl
    cases hz
    have hlen : len = 0 := by
      cases len with
      | zero => rfl
      | succ n => rw [Nat.succ_mul] at hl; simp at hl
    subst hlen
    simp only [Nat.zero_add, List.nil_append] at *
    refine .inl ⟨0, esz + 1, ha, hb, ?_⟩
    cases hm : Nat.beq m 0 with
    | false => exact fun id' h0' hid => ⟨trivial, k id' _ (hh.born h0' (hu id') hid)⟩
    | true =>
      have := Nat.eq_of_beq_eq_true hm
      subst this
      refine ⟨trivial, k 0 H ?_⟩
      have hvs : vs = [] := srcCells_zero hs
      subst hvs
      exact hh.upd (hu 0) fun R h => h
  · have hset : (cs.drop 0).take (len * (esz + 1)) ++ vs = cs ++ vs := by rw [← hl]; simp
    by_cases hne : cs = []
    · subst hne
      have hlen : len = 0 := by
        cases len with
        | zero => rfl
        | succ n => rw [Nat.succ_mul] at hl; simp at hl
      subst hlen
      refine .inr (.inl ⟨id, 0, 0, [], ha, hh.get (hu id).at h0, by simp, hb, fun id' h0' hid => ⟨trivial, k id' _ ?_⟩⟩)
      simpa using hh.move h0 h0' (hu id') hid
    · refine .inr (.inl ⟨id, 0, len, cs, ha, hh.get (hu id).at h0, by omega, hb, fun id' h0' hid => ⟨trivial, k id' _ ?_⟩⟩)
      rw [hset]
      exact hh.move h0 h0' (hu id') hid
/-- .. to a part of a row. -/
theorem wps_appc (hh : Has H L) {esz bytes m id off len : Nat} {a y : X} {cs vs : List V} {L' : Nat → List Ob} (h0 : id ≠ 0) (ha : a.ev env = .slice id off len esz) (hu : ∀ id', Upd (id, .cells true cs) [(id', .cells true ((cs.drop off).take (len * esz) ++ vs))] L (L' id')) (hs : srcCells H esz (y.ev env) = some (m, vs))
    (hl : off + len * esz ≤ cs.length) (hb : (len + m) * bytes ≤ 140737488355328)
    (k : ∀ id' H', Has H' (L' id') → wpOps P is (env.put d (.slice id' 0 (len + m) esz)) H' K) : wpOps P (⟨d, .ef (.app esz bytes a y), none, .no⟩ :: is) env H K :=
  ⟨m, vs, hs, .inr (.inr (.inl ⟨id, off, len, cs, ha, hh.get (hu id).at h0, hl, hb, fun id' h0' hid => ⟨trivial, k id' _ (hh.move h0 h0' (hu id') hid)⟩⟩))⟩
theorem wps_app_nil (hh : Has H L) {esz bytes m : Nat} {a y : X} {vs : List V} (ha : a.ev env = .nils) (hs : srcCells H esz (y.ev env) = some (m + 1, vs)) (hb : (m + 1) * bytes ≤ 140737488355328)
    (k : ∀ id H', Has H' ((id, .cells true vs) :: L) → wpOps P is (env.put d (.slice id 0 (m + 1) esz)) H' K) : wpOps P (⟨d, .ef (.app esz bytes a y), none, x⟩ :: is) env H K :=
  ⟨m + 1, vs, hs, .inl ⟨ha, hb, fun id h0 hid => ⟨Kx.le (Heap.le_set _ hid), k id _ (hh.new h0 hid)⟩⟩⟩
theorem wps_app_nil0 {esz bytes : Nat} {a y : X} {vs : List V} (ha : a.ev env = .nils) (hs : srcCells H esz (y.ev env) = some (0, vs)) (k : wpOps P is (env.put d .nils) H K) : wpOps P (⟨d, .ef (.app esz bytes a y), none, x⟩ :: is) env H K :=
  ⟨0, vs, hs, .inl ⟨ha, by omega, Kx.refl, k⟩⟩
theorem wps_lookF (hh : Has H L) {kt : KT} {z : V} {ok : Bool} {m y : X} {id i : Nat} {es : List (V × V)} {e : V × V} (hm : m.ev env = .map id) (hi : At (id, .map es) L) (hf : findI kt (y.ev env) es = some (some i)) (he : es[i]? = some e) (k : wpOps P is (env.put d (bif ok then .tup [e.2, .bool true] else e.2)) H K) :
    wpOps P (⟨d, .rd (.lookup kt z ok m y), none, x⟩ :: is) env H K :=
  wps_rd (by simp only [R.ev, hm, hh.getm hi.mem, hf, he]) k
theorem wps_lookN (hh : Has H L) {kt : KT} {z : V} {ok : Bool} {m y : X} {id : Nat} {es : List (V × V)} (hm : m.ev env = .map id) (hi : At (id, .map es) L) (hf : findI kt (y.ev env) es = some none) (k : wpOps P is (env.put d (bif ok then .tup [z, .bool false] else z)) H K) :
    wpOps P (⟨d, .rd (.lookup kt z ok m y), none, x⟩ :: is) env H K :=
  wps_rd (by simp only [R.ev, hm, hh.getm hi.mem, hf]) k
theorem wps_put (hh : Has H L) {kt : KT} {m y v : X} {id : Nat} {es es' : List (V × V)} {r : Option Nat} {L' : List Ob} (hm : m.ev env = .map id) (ht : (v.ev env).isTup = false) (hf : findI kt (y.ev env) es = some r) (he : putE (y.ev env) (v.ev env) es r = es') (hu : Upd (id, .map es) [(id, .map es')] L L')
    (k : ∀ H', Has H' L' → wpOps P is (env.put d V.undef) H' K) : wpOps P (⟨d, .ef (.put kt m y v), none, .no⟩ :: is) env H K := by
  subst he
  have h1 := hh.getm hu.at
  have h0 : id ≠ 0 := fun e => by obtain ⟨b', h1⟩ := hh.zero _ hu.at e; cases h1
  exact ⟨id, es, r, hm, h1, ht, hf, ⟨trivial, k _ (hh.set h0 hu)⟩⟩
theorem wps_del (hh : Has H L) {kt : KT} {m y : X} {id : Nat} {es es' : List (V × V)} {r : Option Nat} {L' : List Ob} (hm : m.ev env = .map id) (hf : findI kt (y.ev env) es = some r) (he : delE es r = es') (hu : Upd (id, .map es) [(id, .map es')] L L')
    (k : ∀ H', Has H' L' → wpOps P is (env.put d V.undef) H' K) : wpOps P (⟨d, .ef (.del kt m y), none, .no⟩ :: is) env H K := by
  subst he
  have h1 := hh.getm hu.at
  have h0 : id ≠ 0 := fun e => by obtain ⟨b', h1⟩ := hh.zero _ hu.at e; cases h1
  exact .inr ⟨id, es, r, hm, h1, hf, ⟨trivial, k _ (hh.set h0 hu)⟩⟩

/-- A call that only reads, or reads nothing. -/
theorem wps_callR {f : FuncId} {args : List X} {N R : List Ob} {vs : List V} {φ : V → Prop} (hs : CallsR P f vs N φ) (hh : Has H L) (ht : Tk N L R) (ha : args.map (X.ev env) = vs) (k : ∀ v, φ v → wpOps P is (env.put d v) H K) :
    wpOps P (⟨d, .ef (.call f args), none, x⟩ :: is) env H K := by
  subst ha
  refine .inl ((CallsR.reads hs (hh.tk ht)).mono ?_)
  rintro v H' ⟨hq, rfl⟩
  exact ⟨Kx.refl, k v hq⟩
theorem wps_callE {f : FuncId} {args : List X} {N R : List Ob} {vs : List V} {v : V} (hs : CallsR P f vs N fun u => u = v) (hh : Has H L) (ht : Tk N L R) (ha : args.map (X.ev env) = vs) (k : wpOps P is (env.put d v) H K) :
    wpOps P (⟨d, .ef (.call f args), none, x⟩ :: is) env H K :=
  wps_callR hs hh ht ha fun _ h => h ▸ k
theorem wps_call {f : FuncId} {args : List X} {N R : List Ob} {vs : List V} {φ : V → List Ob → Prop} (hs : CallsL P f vs N φ) (hh : Has H L) (ht : Tk N L R) (ha : args.map (X.ev env) = vs)
    (k : ∀ v L' H', φ v L' → Has H' (L' ++ R) → wpOps P is (env.put d v) H' K) : wpOps P (⟨d, .ef (.call f args), none, .no⟩ :: is) env H K := by
  subst ha
  refine .inl ((CallsL.frame hs (hh.tk ht)).mono ?_)
  rintro v H' ⟨L', hq, h1, _⟩
  exact ⟨trivial, k v L' H' hq h1⟩
/-- Addresses of objects that a call doesn't need. -/
inductive KpL (env : Env) (R : List Ob) : List (Nat × Nat) → Prop
  | nil : KpL env R []
  | cons {n k id off : Nat} {o : HObj} {l : List (Nat × Nat)} (h : env n = .ptr id off) (ha : At (id, o) R) (t : KpL env R l) : KpL env R ((n, k) :: l)
theorem kR_keep {p : Nat × Nat} {id off : Nat} {H' : Heap} (h : env p.1 = .ptr id off) (hl : ∀ o, H id = some o → H' id = some o) {v : V} (hv : (kR p).ev env H = some v) : (kR p).ev env H' = some v := by
  obtain ⟨n, k⟩ := p
  simp only at h
  cases k with
  | zero =>
    simp only [kR, R.ev, X.ev, h] at hv ⊢
    cases ho : H id with
    | none => rw [ho] at hv; cases hv
    | some o => rw [ho] at hv; rw [hl o ho]; exact hv
  | succ k =>
    simp only [kR, R.ev, X.ev, h] at hv ⊢
    cases ho : H id with
    | none => rw [ho] at hv; cases hv
    | some o => rw [ho] at hv; rw [hl o ho]; exact hv
theorem KpL.keep {N R : List Ob} {H' : Heap} {l : List (Nat × Nat)} (hk : KpL env R l) (hh : Has H (N ++ R)) (h2 : ∀ id o, H id = some o → id ∉ ids N → H' id = some o) : ∀ p ∈ l, ∀ v, (kR p).ev env H = some v → (kR p).ev env H' = some v := by
  induction hk with
  | nil => intro p hp; cases hp
  | @cons n k id off o l h ha t ih =>
    intro p hp v hv
    rcases List.mem_cons.1 hp with rfl | hp
    · refine kR_keep h (fun o ho => h2 id o ho fun hm => ?_) hv
      have hnd := hh.nd
      rw [ids_append, List.nodup_append] at hnd
      exact hnd.2.2 _ hm _ (mem_ids.2 ⟨(mem_ids.1 hm).1, (id, _), ha.mem, rfl⟩) rfl
    · exact ih p hp v hv
theorem wps_callK {f : FuncId} {args : List X} {N R : List Ob} {vs : List V} {φ : V → List Ob → Prop} {l : List (Nat × Nat)} (hs : CallsL P f vs N φ) (hh : Has H L) (ht : Tk N L R) (ha : args.map (X.ev env) = vs) (hk : KpL env R l)
    (k : ∀ v L' H', φ v L' → Has H' (L' ++ R) → wpOps P is (env.put d v) H' K) : wpOps P (⟨d, .ef (.call f args), none, .sm l⟩ :: is) env H K := by
  subst ha
  refine .inl ((CallsL.frame hs (hh.tk ht)).mono ?_)
  rintro v H' ⟨L', hq, h1, h2⟩
  exact ⟨.inr (hk.keep (hh.tk ht) h2), k v L' H' hq h1⟩
/-- A call that keeps what it needs, and makes new objects. -/
theorem wps_callN {f : FuncId} {args : List X} {N R : List Ob} {vs : List V} {φ : V → List Ob → Prop} (hs : CallsN P f vs N φ) (hh : Has H L) (ht : Tk N L R) (ha : args.map (X.ev env) = vs)
    (k : ∀ v Lo H', φ v Lo → Has H' (Lo ++ L) → wpOps P is (env.put d v) H' K) : wpOps P (⟨d, .ef (.call f args), none, x⟩ :: is) env H K := by
  subst ha
  refine .inl ((CallsL.keeps hs (by rintro v L' ⟨Lo, _, rfl⟩ y hy; exact List.mem_append_right _ hy) (hh.tk ht)).mono ?_)
  rintro v H' ⟨_, ⟨Lo, hq, rfl⟩, h1, h2⟩
  refine ⟨Kx.le h2, k v Lo H' hq ?_⟩
  rw [List.append_assoc] at h1
  exact h1.perm (ht.perm.symm.append_left Lo)
/-- .. of a function that is a value. -/
theorem wps_vcallE {y : X} {f : FuncId} {cap : List V} {args : List X} {N R : List Ob} {vs : List V} {v : V} (hy : y.ev env = .func f cap) (hs : CallsR P f vs N fun u => u = v) (hh : Has H L) (ht : Tk N L R) (ha : args.map (X.ev env) ++ cap = vs) (k : wpOps P is (env.put d v) H K) :
    wpOps P (⟨d, .ef (.callv y args), none, x⟩ :: is) env H K := by
  subst ha
  refine .inl ⟨f, cap, hy, (CallsR.reads hs (hh.tk ht)).mono ?_⟩
  rintro v H' ⟨rfl, rfl⟩
  exact ⟨Kx.refl, k⟩
theorem wps_vcall {y : X} {f : FuncId} {cap : List V} {args : List X} {N R : List Ob} {vs : List V} {φ : V → List Ob → Prop} (hy : y.ev env = .func f cap) (hs : CallsL P f vs N φ) (hh : Has H L) (ht : Tk N L R) (ha : args.map (X.ev env) ++ cap = vs)
    (k : ∀ v L' H', φ v L' → Has H' (L' ++ R) → wpOps P is (env.put d v) H' K) : wpOps P (⟨d, .ef (.callv y args), none, .no⟩ :: is) env H K := by
  subst ha
  refine .inl ⟨f, cap, hy, (CallsL.frame hs (hh.tk ht)).mono ?_⟩
  rintro v H' ⟨L', hq, h1, _⟩
  exact ⟨trivial, k v L' H' hq h1⟩
/-- .. of a method by its name. -/
theorem wps_icall {y : X} {m : String} {t : TypeId} {v r : V} {f : FuncId} {args : List X} {N R : List Ob} {vs : List V} {φ : V → List Ob → Prop} (hy : y.ev env = .iface t v) (hm : Meth P H t m v f r) (hs : CallsL P f vs N φ) (hh : Has H L) (ht : Tk N L R) (ha : r :: args.map (X.ev env) = vs)
    (k : ∀ v L' H', φ v L' → Has H' (L' ++ R) → wpOps P is (env.put d v) H' K) : wpOps P (⟨d, .ef (.inv y m args), none, .no⟩ :: is) env H K := by
  subst ha
  refine ⟨t, v, f, r, hy, hm, (CallsL.frame hs (hh.tk ht)).mono ?_⟩
  rintro v H' ⟨L', hq, h1, _⟩
  exact ⟨trivial, k v L' H' hq h1⟩
theorem wps_icallE {y : X} {m : String} {t : TypeId} {v r u : V} {f : FuncId} {args : List X} {N R : List Ob} {vs : List V} (hy : y.ev env = .iface t v) (hm : Meth P H t m v f r) (hs : CallsR P f vs N fun w => w = u) (hh : Has H L) (ht : Tk N L R) (ha : r :: args.map (X.ev env) = vs)
    (k : wpOps P is (env.put d u) H K) : wpOps P (⟨d, .ef (.inv y m args), none, x⟩ :: is) env H K := by
  subst ha
  refine ⟨t, v, f, r, hy, hm, (CallsR.reads hs (hh.tk ht)).mono ?_⟩
  rintro v H' ⟨rfl, rfl⟩
  exact ⟨Kx.refl, k⟩
/-- An element's place: of a row from its beginning, and of a part of one. -/
theorem wps_ia {esz : Nat} {y i : X} {id len : Nat} {ki : IntKind} {n : Int} (hx : y.ev env = .slice id 0 len esz) (hi : i.ev env = .int ki n) (hb : 0 ≤ n ∧ n < (len : Int)) (k : wpOps P is (env.put d (.ptr id (n.toNat * esz))) H K) :
    wpOps P (⟨d, .rd (.iaddrS esz y i), none, x⟩ :: is) env H K :=
  wps_rd (by simp only [R.ev, hx, hi]; rw [if_pos ⟨hb.1, hb.2, trivial⟩, Nat.zero_add]) k
theorem wps_iac {esz : Nat} {y i : X} {id off len : Nat} {ki : IntKind} {n : Int} (hx : y.ev env = .slice id off len esz) (hi : i.ev env = .int ki n) (hb : 0 ≤ n ∧ n < (len : Int)) (k : wpOps P is (env.put d (.ptr id (off + n.toNat * esz))) H K) :
    wpOps P (⟨d, .rd (.iaddrS esz y i), none, x⟩ :: is) env H K :=
  wps_rd (by simp only [R.ev, hx, hi]; rw [if_pos ⟨hb.1, hb.2, trivial⟩]) k
theorem wps_iaa {len esz : Nat} {y i : X} {id off : Nat} {ki : IntKind} {n : Int} (hx : y.ev env = .ptr id off) (hi : i.ev env = .int ki n) (hb : 0 ≤ n ∧ n < (len : Int)) (k : wpOps P is (env.put d (.ptr id (off + n.toNat * esz))) H K) :
    wpOps P (⟨d, .rd (.iaddrA len esz y i), none, x⟩ :: is) env H K :=
  wps_rd (by simp only [R.ev, hx, hi]; rw [if_pos ⟨hb.1, hb.2⟩]) k
/-- Numbers that stay in their kind. -/
theorem wrap64 {n : Int} (h : -9223372036854775808 ≤ n ∧ n ≤ 9223372036854775807) : IntKind.i64.wrap n = n := by
  simp only [IntKind.wrap, IntKind.signed, IntKind.bits]
  simp
  omega
theorem wps_add {y z : X} {a b : Int} (hy : y.ev env = .int .i64 a) (hz : z.ev env = .int .i64 b) (hb : -9223372036854775808 ≤ a + b ∧ a + b ≤ 9223372036854775807) (k : wpOps P is (env.put d (.int .i64 (a + b))) H K) : wpOps P (⟨d, .rd (.bin .add y z), none, x⟩ :: is) env H K :=
  wps_rd (by simp only [R.ev, hy, hz, binV, wrap64 hb, if_true]) k
theorem wps_sub {y z : X} {a b : Int} (hy : y.ev env = .int .i64 a) (hz : z.ev env = .int .i64 b) (hb : -9223372036854775808 ≤ a - b ∧ a - b ≤ 9223372036854775807) (k : wpOps P is (env.put d (.int .i64 (a - b))) H K) : wpOps P (⟨d, .rd (.bin .sub y z), none, x⟩ :: is) env H K :=
  wps_rd (by simp only [R.ev, hy, hz, binV, wrap64 hb, if_true]) k
theorem wps_mul {y z : X} {a b : Int} (hy : y.ev env = .int .i64 a) (hz : z.ev env = .int .i64 b) (hb : -9223372036854775808 ≤ a * b ∧ a * b ≤ 9223372036854775807) (k : wpOps P is (env.put d (.int .i64 (a * b))) H K) : wpOps P (⟨d, .rd (.bin .mul y z), none, x⟩ :: is) env H K :=
  wps_rd (by simp only [R.ev, hy, hz, binV, wrap64 hb, if_true]) k
theorem wps_quo {y z : X} {a b : Int} (hy : y.ev env = .int .i64 a) (hz : z.ev env = .int .i64 b) (hb : 0 ≤ a ∧ a ≤ 9223372036854775807 ∧ 0 < b) (k : wpOps P is (env.put d (.int .i64 (a / b))) H K) : wpOps P (⟨d, .rd (.bin .quo y z), none, x⟩ :: is) env H K := by
  refine wps_rd ?_ k
  have h1 : ¬ b = 0 := by omega
  have h2 : a / b ≤ a := Int.ediv_le_self b hb.1
  have h3 : 0 ≤ a / b := Int.ediv_nonneg hb.1 (by omega)
  simp only [R.ev, hy, hz, binV, if_true, if_neg h1, Int.tdiv_eq_ediv_of_nonneg hb.1, wrap64 (show -9223372036854775808 ≤ a / b ∧ a / b ≤ 9223372036854775807 by omega)]
theorem wps_rem {y z : X} {k' : IntKind} {a b : Int} (hy : y.ev env = .int k' a) (hz : z.ev env = .int k' b) (hb : 0 ≤ a ∧ 0 < b) (k : wpOps P is (env.put d (.int k' (a % b))) H K) : wpOps P (⟨d, .rd (.bin .rem y z), none, x⟩ :: is) env H K := by
  refine wps_rd ?_ k
  have h1 : ¬ b = 0 := by omega
  simp only [R.ev, hy, hz, binV, if_true, if_neg h1, Int.tmod_eq_emod_of_nonneg hb.1]
theorem wps_eq {c : EqC} {y z : X} {b : Bool} (h : eqV c (y.ev env) (z.ev env) = some b) (k : wpOps P is (env.put d (.bool b)) H K) : wpOps P (⟨d, .rd (.eq c false y z), none, x⟩ :: is) env H K :=
  wps_rd (by simp only [R.ev, h, cond_false]) k
theorem wps_ne {c : EqC} {y z : X} {b : Bool} (h : eqV c (y.ev env) (z.ev env) = some b) (k : wpOps P is (env.put d (.bool (!b))) H K) : wpOps P (⟨d, .rd (.eq c true y z), none, x⟩ :: is) env H K :=
  wps_rd (by simp only [R.ev, h, cond_true]) k
/-- A byte of a text; a piece of one. -/
theorem wps_is {y i : X} {s : List UInt8} {ki : IntKind} {n : Int} (hx : y.ev env = .str s) (hi : i.ev env = .int ki n) (hb : 0 ≤ n ∧ n < (s.length : Int)) (k : wpOps P is (env.put d (.int .u8 (s.getD n.toNat 0).toNat)) H K) :
    wpOps P (⟨d, .rd (.idxStr y i), none, x⟩ :: is) env H K := by
  refine wps_rd ?_ k
  have : n.toNat < s.length := by omega
  simp only [R.ev, hx, hi, if_pos hb.1, List.getElem?_eq_getElem this, List.getD_eq_getElem?_getD, Option.getD_some]
theorem bndn {y z : Nat} : boundV none z y = some z := rfl
theorem bnd {v : Option V} {y z : Nat} {k : IntKind} {n : Int} (hv : v = some (.int k n)) (h : 0 ≤ n ∧ n ≤ (y : Int)) : boundV v z y = some n.toNat := by
  subst hv
  simp only [boundV]; rw [if_pos h]
theorem wps_cs00 {y : X} {s : List UInt8} (hx : y.ev env = .str s) (k : wpOps P is (env.put d (.str s)) H K) : wpOps P (⟨d, .rd (.cutStr y none none), none, x⟩ :: is) env H K :=
  wps_rd (by simp [R.ev, hx, boundV]) k
theorem wps_cs01 {y h : X} {s : List UInt8} {kh : IntKind} {n : Int} (hx : y.ev env = .str s) (hh : h.ev env = .int kh n) (hb : 0 ≤ n ∧ n ≤ (s.length : Int)) (k : wpOps P is (env.put d (.str (s.take n.toNat))) H K) : wpOps P (⟨d, .rd (.cutStr y none (some h)), none, x⟩ :: is) env H K :=
  wps_rd (by simp only [R.ev, hx, Option.map_some, bnd (congrArg some hh) hb]; simp [boundV]) k
theorem wps_cs10 {y l : X} {s : List UInt8} {kl : IntKind} {n : Int} (hx : y.ev env = .str s) (hl : l.ev env = .int kl n) (hb : 0 ≤ n ∧ n ≤ (s.length : Int)) (k : wpOps P is (env.put d (.str (s.drop n.toNat))) H K) : wpOps P (⟨d, .rd (.cutStr y (some l) none), none, x⟩ :: is) env H K :=
  wps_rd (by simp only [R.ev, hx, Option.map_some, Option.map_none, bndn, bnd (congrArg some hl) hb]; simp) k
theorem wps_cs11 {y l h : X} {s : List UInt8} {kl kh : IntKind} {n m : Int} (hx : y.ev env = .str s) (hl : l.ev env = .int kl n) (hh : h.ev env = .int kh m) (hb : 0 ≤ n ∧ n ≤ m ∧ m ≤ (s.length : Int)) (k : wpOps P is (env.put d (.str ((s.take m.toNat).drop n.toNat))) H K) : wpOps P (⟨d, .rd (.cutStr y (some l) (some h)), none, x⟩ :: is) env H K :=
  wps_rd (by simp only [R.ev, hx, Option.map_some, bnd (congrArg some hh) (show 0 ≤ m ∧ m ≤ ((s.length : Nat) : Int) by omega), bnd (congrArg some hl) (show 0 ≤ n ∧ n ≤ ((m.toNat : Nat) : Int) by omega)]) k
/-- A part of a row. -/
theorem wps_cl00 {y : X} {id off len esz : Nat} (hx : y.ev env = .slice id off len esz) (k : wpOps P is (env.put d (.slice id off len esz)) H K) : wpOps P (⟨d, .rd (.cutSl esz y none none), none, x⟩ :: is) env H K :=
  wps_rd (by simp [R.ev, hx, boundV]) k
theorem wps_cl01 {y h : X} {id off len esz : Nat} {kh : IntKind} {n : Int} (hx : y.ev env = .slice id off len esz) (hh : h.ev env = .int kh n) (hb : 0 ≤ n ∧ n ≤ (len : Int)) (k : wpOps P is (env.put d (.slice id off n.toNat esz)) H K) : wpOps P (⟨d, .rd (.cutSl esz y none (some h)), none, x⟩ :: is) env H K :=
  wps_rd (by simp only [R.ev, hx, Option.map_some, bnd (congrArg some hh) hb]; simp [boundV]) k
theorem wps_cl10 {y l : X} {id off len esz : Nat} {kl : IntKind} {n : Int} (hx : y.ev env = .slice id off len esz) (hl : l.ev env = .int kl n) (hb : 0 ≤ n ∧ n ≤ (len : Int)) (k : wpOps P is (env.put d (.slice id (off + n.toNat * esz) (len - n.toNat) esz)) H K) : wpOps P (⟨d, .rd (.cutSl esz y (some l) none), none, x⟩ :: is) env H K :=
  wps_rd (by simp only [R.ev, hx, Option.map_some, Option.map_none, bndn, bnd (congrArg some hl) hb]; simp) k
theorem wps_cl11 {y l h : X} {id off len esz : Nat} {kl kh : IntKind} {n m : Int} (hx : y.ev env = .slice id off len esz) (hl : l.ev env = .int kl n) (hh : h.ev env = .int kh m) (hb : 0 ≤ n ∧ n ≤ m ∧ m ≤ (len : Int)) (k : wpOps P is (env.put d (.slice id (off + n.toNat * esz) (m.toNat - n.toNat) esz)) H K) : wpOps P (⟨d, .rd (.cutSl esz y (some l) (some h)), none, x⟩ :: is) env H K :=
  wps_rd (by simp only [R.ev, hx, Option.map_some, bnd (congrArg some hh) (show 0 ≤ m ∧ m ≤ ((len : Nat) : Int) by omega), bnd (congrArg some hl) (show 0 ≤ n ∧ n ≤ ((m.toNat : Nat) : Int) by omega), if_true]) k
/-- Objects said with less. -/
theorem c_wk {l : List I} {env' : Env} {H' : Heap} (he : ∀ t, Wk (env t) (env' t)) (hw : HWk H H') (h : wpOps P l env' H' (Q .normal)) : C.wp P (.ops l) Q env H := .weak he hw (.here h)
theorem put_wk {s : Nat} {v v' : V} (h : env s = v) (hw : Wk v v') (t : Nat) : Wk (env t) (env.put (some s) v' t) := by
  simp only [Env.put]
  cases ht : Nat.beq t s with
  | true => rw [Nat.eq_of_beq_eq_true ht, h]; exact hw
  | false => exact Wk.refl _
/-- A slot said with less. -/
theorem c_wk1 {l : List I} (s : Nat) {v : V} (v' : V) (h : env s = v) (hw : Wk v v') (k : C.wp P (.ops l) Q (env.put (some s) v') H) : C.wp P (.ops l) Q env H := C.wk (put_wk h hw) (HWk.refl H) k

/-! Conditions as propositions. -/
theorem c_cond_d {y : X} {a b : C} {p : Prop} {_ : Decidable p} (hx : y.ev env = .bool (decide p)) (ht : p → a.wp P Q env H) (hf : ¬p → b.wp P Q env H) : C.wp P (.cond y a b) Q env H :=
  c_cond hx (fun h => ht (of_decide_eq_true h)) (fun h => hf (of_decide_eq_false h))
theorem wps_split_d {l : List I} (s : Nat) {p : Prop} {_ : Decidable p} (h : env s = .bool (decide p)) (ht : p → wpOps P l (env.put (some s) (.bool true)) H K) (hf : ¬p → wpOps P l (env.put (some s) (.bool false)) H K) : wpOps P l env H K :=
  wps_split s h (fun h => ht (of_decide_eq_true h)) (fun h => hf (of_decide_eq_false h))
theorem wps_gs_d {o : O} {s : Nat} {b : Bool} {p : Prop} {_ : Decidable p} (h : env s = .bool (decide p)) (ht : p → wpOps P (⟨d, o, some (s, b), x⟩ :: is) (env.put (some s) (.bool true)) H K) (hf : ¬p → wpOps P (⟨d, o, some (s, b), x⟩ :: is) (env.put (some s) (.bool false)) H K) :
    wpOps P (⟨d, o, some (s, b), x⟩ :: is) env H K := wps_split_d s h ht hf
theorem wps_pk_d {s : Nat} {a b : X} {p : Prop} {_ : Decidable p} (h : env s = .bool (decide p)) (ht : p → wpOps P (⟨d, .rd (.pick (.t s) a b), none, x⟩ :: is) (env.put (some s) (.bool true)) H K) (hf : ¬p → wpOps P (⟨d, .rd (.pick (.t s) a b), none, x⟩ :: is) (env.put (some s) (.bool false)) H K) :
    wpOps P (⟨d, .rd (.pick (.t s) a b), none, x⟩ :: is) env H K := wps_split_d s h ht hf
theorem c_cond_nd {y : X} {a b : C} {p : Prop} {_ : Decidable p} (hx : y.ev env = .bool (!decide p)) (ht : ¬p → a.wp P Q env H) (hf : p → b.wp P Q env H) : C.wp P (.cond y a b) Q env H :=
  c_cond hx (fun h => ht (by simpa using h)) (fun h => hf (by simpa using h))
theorem wps_split_nd {l : List I} (s : Nat) {p : Prop} {_ : Decidable p} (h : env s = .bool (!decide p)) (ht : ¬p → wpOps P l (env.put (some s) (.bool true)) H K) (hf : p → wpOps P l (env.put (some s) (.bool false)) H K) : wpOps P l env H K :=
  wps_split s h (fun h => ht (by simpa using h)) (fun h => hf (by simpa using h))
theorem wps_gs_nd {o : O} {s : Nat} {b : Bool} {p : Prop} {_ : Decidable p} (h : env s = .bool (!decide p)) (ht : ¬p → wpOps P (⟨d, o, some (s, b), x⟩ :: is) (env.put (some s) (.bool true)) H K) (hf : p → wpOps P (⟨d, o, some (s, b), x⟩ :: is) (env.put (some s) (.bool false)) H K) :
    wpOps P (⟨d, o, some (s, b), x⟩ :: is) env H K := wps_split_nd s h ht hf
theorem wps_pk_nd {s : Nat} {a b : X} {p : Prop} {_ : Decidable p} (h : env s = .bool (!decide p)) (ht : ¬p → wpOps P (⟨d, .rd (.pick (.t s) a b), none, x⟩ :: is) (env.put (some s) (.bool true)) H K) (hf : p → wpOps P (⟨d, .rd (.pick (.t s) a b), none, x⟩ :: is) (env.put (some s) (.bool false)) H K) :
    wpOps P (⟨d, .rd (.pick (.t s) a b), none, x⟩ :: is) env H K := wps_split_nd s h ht hf
theorem c_cond_e {y : X} {a b : C} {u v : Int} (hx : y.ev env = .bool (u == v)) (ht : u = v → a.wp P Q env H) (hf : u ≠ v → b.wp P Q env H) : C.wp P (.cond y a b) Q env H :=
  c_cond hx (fun h => ht (eq_of_beq h)) (fun h => hf (by simpa using h))
theorem wps_split_e {l : List I} (s : Nat) {u v : Int} (h : env s = .bool (u == v)) (ht : u = v → wpOps P l (env.put (some s) (.bool true)) H K) (hf : u ≠ v → wpOps P l (env.put (some s) (.bool false)) H K) : wpOps P l env H K :=
  wps_split s h (fun h => ht (eq_of_beq h)) (fun h => hf (by simpa using h))
theorem wps_gs_e {o : O} {s : Nat} {b : Bool} {u v : Int} (h : env s = .bool (u == v)) (ht : u = v → wpOps P (⟨d, o, some (s, b), x⟩ :: is) (env.put (some s) (.bool true)) H K) (hf : u ≠ v → wpOps P (⟨d, o, some (s, b), x⟩ :: is) (env.put (some s) (.bool false)) H K) :
    wpOps P (⟨d, o, some (s, b), x⟩ :: is) env H K := wps_split_e s h ht hf
theorem wps_pk_e {s : Nat} {a b : X} {u v : Int} (h : env s = .bool (u == v)) (ht : u = v → wpOps P (⟨d, .rd (.pick (.t s) a b), none, x⟩ :: is) (env.put (some s) (.bool true)) H K) (hf : u ≠ v → wpOps P (⟨d, .rd (.pick (.t s) a b), none, x⟩ :: is) (env.put (some s) (.bool false)) H K) :
    wpOps P (⟨d, .rd (.pick (.t s) a b), none, x⟩ :: is) env H K := wps_split_e s h ht hf
theorem c_cond_n {y : X} {a b : C} {u v : Int} (hx : y.ev env = .bool (u != v)) (ht : u ≠ v → a.wp P Q env H) (hf : u = v → b.wp P Q env H) : C.wp P (.cond y a b) Q env H :=
  c_cond hx (fun h => ht (by simpa using h)) (fun h => hf (by simpa using h))
theorem wps_split_n {l : List I} (s : Nat) {u v : Int} (h : env s = .bool (u != v)) (ht : u ≠ v → wpOps P l (env.put (some s) (.bool true)) H K) (hf : u = v → wpOps P l (env.put (some s) (.bool false)) H K) : wpOps P l env H K :=
  wps_split s h (fun h => ht (by simpa using h)) (fun h => hf (by simpa using h))
theorem wps_gs_n {o : O} {s : Nat} {b : Bool} {u v : Int} (h : env s = .bool (u != v)) (ht : u ≠ v → wpOps P (⟨d, o, some (s, b), x⟩ :: is) (env.put (some s) (.bool true)) H K) (hf : u = v → wpOps P (⟨d, o, some (s, b), x⟩ :: is) (env.put (some s) (.bool false)) H K) :
    wpOps P (⟨d, o, some (s, b), x⟩ :: is) env H K := wps_split_n s h ht hf
theorem wps_pk_n {s : Nat} {a b : X} {u v : Int} (h : env s = .bool (u != v)) (ht : u ≠ v → wpOps P (⟨d, .rd (.pick (.t s) a b), none, x⟩ :: is) (env.put (some s) (.bool true)) H K) (hf : u = v → wpOps P (⟨d, .rd (.pick (.t s) a b), none, x⟩ :: is) (env.put (some s) (.bool false)) H K) :
    wpOps P (⟨d, .rd (.pick (.t s) a b), none, x⟩ :: is) env H K := wps_split_n s h ht hf
theorem c_cond_s {y : X} {a b : C} {u v : List UInt8} (hx : y.ev env = .bool (u == v)) (ht : u = v → a.wp P Q env H) (hf : u ≠ v → b.wp P Q env H) : C.wp P (.cond y a b) Q env H :=
  c_cond hx (fun h => ht (eq_of_beq h)) (fun h => hf (by simpa using h))
theorem wps_split_s {l : List I} (s : Nat) {u v : List UInt8} (h : env s = .bool (u == v)) (ht : u = v → wpOps P l (env.put (some s) (.bool true)) H K) (hf : u ≠ v → wpOps P l (env.put (some s) (.bool false)) H K) : wpOps P l env H K :=
  wps_split s h (fun h => ht (eq_of_beq h)) (fun h => hf (by simpa using h))
theorem wps_gs_s {o : O} {s : Nat} {b : Bool} {u v : List UInt8} (h : env s = .bool (u == v)) (ht : u = v → wpOps P (⟨d, o, some (s, b), x⟩ :: is) (env.put (some s) (.bool true)) H K) (hf : u ≠ v → wpOps P (⟨d, o, some (s, b), x⟩ :: is) (env.put (some s) (.bool false)) H K) :
    wpOps P (⟨d, o, some (s, b), x⟩ :: is) env H K := wps_split_s s h ht hf
theorem wps_pk_s {s : Nat} {a b : X} {u v : List UInt8} (h : env s = .bool (u == v)) (ht : u = v → wpOps P (⟨d, .rd (.pick (.t s) a b), none, x⟩ :: is) (env.put (some s) (.bool true)) H K) (hf : u ≠ v → wpOps P (⟨d, .rd (.pick (.t s) a b), none, x⟩ :: is) (env.put (some s) (.bool false)) H K) :
    wpOps P (⟨d, .rd (.pick (.t s) a b), none, x⟩ :: is) env H K := wps_split_s s h ht hf
theorem c_cond_ns {y : X} {a b : C} {u v : List UInt8} (hx : y.ev env = .bool (!(u == v))) (ht : u ≠ v → a.wp P Q env H) (hf : u = v → b.wp P Q env H) : C.wp P (.cond y a b) Q env H :=
  c_cond hx (fun h => ht (by simpa using h)) (fun h => hf (by simpa using h))
theorem wps_split_ns {l : List I} (s : Nat) {u v : List UInt8} (h : env s = .bool (!(u == v))) (ht : u ≠ v → wpOps P l (env.put (some s) (.bool true)) H K) (hf : u = v → wpOps P l (env.put (some s) (.bool false)) H K) : wpOps P l env H K :=
  wps_split s h (fun h => ht (by simpa using h)) (fun h => hf (by simpa using h))
theorem wps_gs_ns {o : O} {s : Nat} {b : Bool} {u v : List UInt8} (h : env s = .bool (!(u == v))) (ht : u ≠ v → wpOps P (⟨d, o, some (s, b), x⟩ :: is) (env.put (some s) (.bool true)) H K) (hf : u = v → wpOps P (⟨d, o, some (s, b), x⟩ :: is) (env.put (some s) (.bool false)) H K) :
    wpOps P (⟨d, o, some (s, b), x⟩ :: is) env H K := wps_split_ns s h ht hf
theorem wps_pk_ns {s : Nat} {a b : X} {u v : List UInt8} (h : env s = .bool (!(u == v))) (ht : u ≠ v → wpOps P (⟨d, .rd (.pick (.t s) a b), none, x⟩ :: is) (env.put (some s) (.bool true)) H K) (hf : u = v → wpOps P (⟨d, .rd (.pick (.t s) a b), none, x⟩ :: is) (env.put (some s) (.bool false)) H K) :
    wpOps P (⟨d, .rd (.pick (.t s) a b), none, x⟩ :: is) env H K := wps_split_ns s h ht hf
end
end Go.CM
