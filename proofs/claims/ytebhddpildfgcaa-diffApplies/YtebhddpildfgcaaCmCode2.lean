/-
  A program logic over the model's calls, part 17: regions that draw their order.
-/
import Derived.Test.YtebhddpildfgcaaCmCode
namespace Go.CM

section
variable {P : Program} {n : Nat} {ι : Pl} {H : Heap} {w : World} {env : Env} {a : Act}

theorem compAll_spec {ops : List Oper} : ∀ {l : List (Nat × Kx)} {js : List (Nat × I)}, compAll P n ops l = some js → ∀ p ∈ js, ∃ o x, ops[p.1]? = some o ∧ compI P n ops o x = some p.2
  | [], js, h => by simp [compAll] at h; subst h; simp
  | (i, x) :: l, js, h => by
    unfold compAll at h
    split at h
    · rename_i o ho
      split at h
      · rename_i y ys h1 h2
        cases h
        intro p hp
        rcases List.mem_cons.1 hp with rfl | hp
        · exact ⟨o, x, ho, h1⟩
        · exact compAll_spec h2 p hp
      · cases h
    · cases h

theorem pairsAll_append {α : Type} {p : α → α → Bool} : ∀ {l l' : List α}, pairsAll p (l ++ l') = true → pairsAll p l = true ∧ pairsAll p l' = true ∧ ∀ a ∈ l, ∀ b ∈ l', p a b = true
  | [], l', h => ⟨rfl, h, by simp⟩
  | a :: l, l', h => by
    simp only [List.cons_append, pairsAll, Bool.and_eq_true, List.all_append] at h
    obtain ⟨⟨h1, h2⟩, h3⟩ := h
    obtain ⟨h4, h5, h6⟩ := pairsAll_append h3
    refine ⟨by simp [pairsAll, h1, h4], h5, fun x hx b hb => ?_⟩
    rcases List.mem_cons.1 hx with rfl | hx
    · exact List.all_eq_true.1 h2 b hb
    · exact h6 x hx b hb

theorem pairsAll_mid {α : Type} {p : α → α → Bool} {l l' : List α} {x : α} (h : pairsAll p (l ++ x :: l') = true) : pairsAll p (l ++ l') = true ∧ ∀ a ∈ l, p a x = true := by
  obtain ⟨h1, h2, h3⟩ := pairsAll_append h
  simp only [pairsAll, Bool.and_eq_true] at h2
  refine ⟨?_, fun a ha => h3 a ha x (by simp)⟩
  have : ∀ {l l' : List α}, pairsAll p l = true → pairsAll p l' = true → (∀ a ∈ l, ∀ b ∈ l', p a b = true) → pairsAll p (l ++ l') = true := by
    intro l l'
    induction l with
    | nil => intro _ h _; exact h
    | cons a l ih =>
      intro h h' hh
      simp only [pairsAll, Bool.and_eq_true] at h
      simp only [List.cons_append, pairsAll, Bool.and_eq_true, List.all_append]
      exact ⟨⟨h.1, List.all_eq_true.2 fun b hb => hh a (by simp) b hb⟩, ih h.2 h' fun a ha => hh a (by simp [ha])⟩
  exact this h1 h2.2 fun a ha b hb => h3 a ha b (by simp [hb])

theorem ssa_mid {l l' : List I} {y : I} (h : ssa (l ++ y :: l') = true) : ssa (l ++ l') = true ∧ ssa l = true := by
  simp only [ssa, Bool.and_eq_true, List.all_append, List.all_cons] at h ⊢
  obtain ⟨h1, _⟩ := pairsAll_mid h.1
  exact ⟨⟨h1, h.2.1, h.2.2.2⟩, (pairsAll_append h1).1, h.2.1⟩
/-- Those that keep some slots' reads are effects, and no slot is written behind its use. -/
def SmOk (L : List (Nat × I)) : Prop := ∀ p ∈ L, p.2.x.isSm = true → ssa (L.map (·.2)) = true ∧ p.2.o.isE = true
theorem SmOk.mid {l l' : List (Nat × I)} {y : Nat × I} (h : SmOk (l ++ y :: l')) : SmOk (l ++ l') := fun p hp hs => by
  obtain ⟨h1, h2⟩ := h p (by rcases List.mem_append.1 hp with h | h <;> simp [h]) hs
  refine ⟨?_, h2⟩
  rw [List.map_append, List.map_cons] at h1
  rw [List.map_append]
  exact (ssa_mid h1).1
theorem compI_free {ops : List Oper} {o : Oper} {x : Kx} {y : I} (h : compI P n ops o x = some y) : compI P n ops o .no = some y.free := by
  unfold compI at h ⊢
  cases hd : dstOk n o.dst with
  | false => rw [hd] at h; cases h
  | true =>
    rw [hd] at h
    simp only [cond_true] at h ⊢
    split at h
    · split at h
      · cases h; rfl
      · rename_i hg
        split at h
        · split at h
          · rename_i sl _
            cases hb : Nat.blt sl n with
            | false => rw [hb] at h; cases h
            | true => rw [hb] at h; cases h; rfl
          · cases h
        · cases h
    · cases h

/-- The listed ones wait for listed ones alone. -/
def Down (ops : List Oper) (listed : Array Bool) : Prop := ∀ i o, listed.getD i false = true → ops[i]? = some o → ∀ e ∈ direct o, listed.getD e false = true

theorem direct_mem {o : Oper} {e : Edge} (he : e ∈ o.after) (hb : Region.binds .any e = true) : e.on ∈ direct o := by
  unfold direct
  exact List.mem_filterMap.2 ⟨e, by simpa using he, by simp [hb]⟩

theorem mem_direct {o : Oper} {k : Nat} (h : k ∈ direct o) : ∃ e ∈ o.after, Region.binds .any e = true ∧ e.on = k := by
  unfold direct at h
  obtain ⟨e, he, hx⟩ := List.mem_filterMap.1 h
  cases hb : Region.binds .any e with
  | false => rw [hb] at hx; cases hx
  | true => rw [hb] at hx; exact ⟨e, by simpa using he, hb, by simpa using hx⟩

/-- All that is ahead of one whose direct ones are listed, is listed. -/
theorem ahead_listed {ops : List Oper} {tab : List Nat} (ht : aheadOk ops tab = true) {listed : Array Bool} (hd : Down ops listed) :
    ∀ (i : Nat) (o : Oper), ops[i]? = some o → (∀ e ∈ direct o, listed.getD e false = true) → ∀ j, (tab.getD i 0).testBit j = true → j < ops.length → listed.getD j false = true := by
  intro i
  induction i using Nat.strongRecOn with
  | _ i ih =>
    intro o ho hdir j hj hjl
    unfold aheadOk at ht
    simp only [Bool.and_eq_true, List.all_eq_true, List.mem_range] at ht
    have hi := (List.getElem?_eq_some_iff.1 ho).1
    have := ht.2 i hi j hjl
    rw [hj, ho] at this
    simp only [Bool.not_true, Bool.false_or, Bool.or_eq_true, List.contains_iff_mem, List.any_eq_true, Bool.and_eq_true] at this
    rcases this with h | ⟨e, he, h1, h2⟩
    · exact hdir j h
    · have hei : e < i := by simpa [Nat.blt, Nat.lt_iff_add_one_le] using h1
      have hel := hdir e he
      have heo : ∃ oe, ops[e]? = some oe := ⟨ops[e]'(by omega), by simp⟩
      obtain ⟨oe, hoe⟩ := heo
      exact ih e hei oe hoe (hd e oe hel hoe) j h2 hjl

theorem getD_listed {listed : Array Bool} {i j : Nat} (hi : i < listed.size) : (listed.setIfInBounds i true).getD j false = if j = i then true else listed.getD j false := by
  by_cases h : j = i
  · subst h; simp [hi]
  · rw [if_neg h]; exact getD_set_ne false (Ne.symm h)

theorem any_sound {ops : Array Oper} {tab : List Nat} (ht : aheadOk ops.toList tab = true) (hed : edgesOk ops.toList = true) {Q : Exit → Act → World → Prop} {Kc : Env → Heap → Prop} (ro : Option Nat) :
    ∀ (fuel : Nat) (L : List (Nat × I)) (listed : Array Bool) {ι : Pl} {env : Env} {H : Heap} {a : Act} {w : World},
      L.length = fuel → listed.size = ops.size → Down ops.toList listed → (∀ i, i < ops.size → (listed.getD i false = false ↔ ∃ y, (i, y) ∈ L)) → (∀ p ∈ L, ∃ o x, ops.toList[p.1]? = some o ∧ compI P n ops.toList o x = some p.2) →
      pairsAll (pairOk tab) L = true → SmOk L → (∀ p ∈ L, p.1 < ops.size) → (L.map (·.1)).Nodup → EnvR n ι w env a → Rel ι H w → wpOps P (L.map (·.2)) env H Kc →
      (∀ ι' env' H' a' w', Kc env' H' → EnvR n ι' w' env' a' → Rel ι' H' w' → Ext ι H w ι' H' w' → Q .normal a' w') →
      wpAnyIn (FW ro) 0 P .any ops Q fuel listed a w
  | fuel, L, listed, ι, env, H, a, w, hlen, hsz, hdown, hmem, hcomp, hpairs, hsm, hlt, hnd, hE, hR, hk, h => by
    have hgd : ∀ (i : Nat) (b : Bool), i < ops.size → listed.getD i b = listed.getD i false := by
      intro i b hi
      have : i < listed.size := by omega
      simp [this]
    -- one that is not listed and is least is ready
    have least : ∀ i, i < ops.size → listed.getD i false = false → ∃ k, k ∈ Region.ready .any ops listed := by
      intro i
      induction i using Nat.strongRecOn with
      | _ i ih =>
        intro hi hl
        by_cases hex : ∃ k, k < i ∧ listed.getD k false = false
        · obtain ⟨k, hk1, hk2⟩ := hex
          exact ih k hk1 (by omega) hk2
        · refine ⟨i, mem_ready.2 ⟨by rw [hgd i true hi]; exact hl, ops[i], by simp [hi], fun e he hb => ?_⟩⟩
          have hd := direct_mem he hb
          unfold edgesOk at hed
          have := List.all_eq_true.1 hed i (by simpa using hi)
          rw [show ops.toList[i]? = some ops[i] by simp [hi]] at this
          have hlt := List.all_eq_true.1 this _ hd
          have hlt' : e.on < i := by simpa [Nat.blt, Nat.lt_iff_add_one_le] using hlt
          cases hc : listed.getD e.on false with
          | true => rfl
          | false => exact absurd ⟨e.on, hlt', hc⟩ hex
    have hfirst : Region.ready .any ops listed = [] → Q .normal a w := by
      intro hr
      cases L with
      | nil => exact h ι env H a w hk hE hR (Ext.refl _ _ _)
      | cons p L =>
        have hp := hlt p (by simp)
        have := (hmem p.1 hp).2 ⟨p.2, by simp⟩
        obtain ⟨k, hk⟩ := least p.1 hp this
        rw [hr] at hk; cases hk
    cases fuel with
    | zero =>
      have hL : L = [] := List.eq_nil_of_length_eq_zero hlen
      have hr : Region.ready .any ops listed = [] := by
        apply List.eq_nil_iff_forall_not_mem.2
        intro k hk
        obtain ⟨h1, o, ho, _⟩ := mem_ready.1 hk
        have hks : k < ops.size := (Array.getElem?_eq_some_iff.1 ho).1
        rw [hgd k true hks] at h1
        obtain ⟨y, hy⟩ := (hmem k hks).1 h1
        rw [hL] at hy; cases hy
      exact ⟨hr, hfirst hr⟩
    | succ fuel =>
      refine ⟨hfirst, fun i hi => ?_⟩
      obtain ⟨h1, o, ho, hedge⟩ := mem_ready.1 hi
      have his : i < ops.size := (Array.getElem?_eq_some_iff.1 ho).1
      rw [hgd i true his] at h1
      obtain ⟨y, hy⟩ := (hmem i his).1 h1
      obtain ⟨L1, L2, rfl⟩ := List.append_of_mem hy
      have hol : ops.toList[i]? = some o := by rw [Array.getElem?_toList]; exact ho
      have hdir : ∀ e ∈ direct o, listed.getD e false = true := by
        intro k hk
        obtain ⟨e, he, hb, rfl⟩ := mem_direct hk
        exact hedge e he hb
      obtain ⟨hp1, hp2⟩ := pairsAll_mid hpairs
      have hsw : ∀ p ∈ L1, swapOk p.2 y = true := by
        intro p hp
        have hpo := hp2 p hp
        unfold pairOk at hpo
        simp only [Bool.or_eq_true] at hpo
        rcases hpo with hpo | hpo
        · exfalso
          have hps := hlt p (by simp [hp])
          have h3 := ahead_listed ht hdown i o hol hdir p.1 hpo (by simpa using hps)
          have h4 := (hmem p.1 hps).2 ⟨p.2, by simp [hp]⟩
          rw [h3] at h4; cases h4
        · exact hpo
      obtain ⟨o', x, ho', hci⟩ := hcomp (i, y) (by simp)
      simp only at ho' hci
      rw [hol] at ho'; cases ho'
      have hfront : ∃ y' x', compI P n ops.toList o x' = some y' ∧ wpOps P (y' :: (L1.map (·.2) ++ L2.map (·.2))) env H Kc := by
        have hsw' : ∀ j ∈ L1.map (·.2), swapOk j y = true := fun j hj => by
          obtain ⟨p, hp, rfl⟩ := List.mem_map.1 hj
          exact hsw p hp
        cases hys : y.x.isSm with
        | false => exact ⟨y, x, hci, wpOps_front hys hsw' (by simpa using hk)⟩
        | true =>
          obtain ⟨h6, h7⟩ := hsm (i, y) (by simp) hys
          rw [List.map_append, List.map_cons] at h6
          exact ⟨y.free, .no, compI_free hci, wpOps_frontS h7 (ssa_mid h6).2 hsw' (by simpa using hk)⟩
      obtain ⟨y', x', hci', hfront⟩ := hfront
      refine I.sound hE hR hci' ho hfront ?_ ro
      intro ι' env' H' a' w' hk' hE' hR' hX
      have hnd' : i ∉ L1.map (·.1) ∧ i ∉ L2.map (·.1) ∧ ((L1 ++ L2).map (·.1)).Nodup := by
        simp only [List.map_append, List.map_cons] at hnd ⊢
        have h5 := (List.nodup_append.1 hnd)
        have h6 := List.nodup_cons.1 h5.2.1
        refine ⟨fun hh => (h5.2.2 i hh i (by simp)) rfl, h6.1, List.nodup_append.2 ⟨h5.1, h6.2, fun a ha b hb => h5.2.2 a ha b (by simp [hb])⟩⟩
      refine any_sound ht hed ro fuel (L1 ++ L2) _ (by simp at hlen ⊢; omega) (by simpa using hsz) ?_ ?_ (fun p hp => hcomp p (by rcases List.mem_append.1 hp with h | h <;> simp [h])) hp1 hsm.mid
        (fun p hp => hlt p (by rcases List.mem_append.1 hp with h | h <;> simp [h])) hnd'.2.2 hE' hR' (by simpa using hk') ?_
      · intro k ok hk1 hk2 e he
        rw [getD_listed (by omega)] at hk1 ⊢
        split
        · rfl
        · split at hk1
          · rename_i hki
            subst hki
            rw [hol] at hk2; cases hk2
            exact hdir e he
          · exact hdown k ok hk1 hk2 e he
      · intro k hk1
        rw [getD_listed (by omega)]
        by_cases hki : k = i
        · subst hki
          simp only [if_true]
          constructor
          · intro h; cases h
          · rintro ⟨y', hy'⟩
            rcases List.mem_append.1 hy' with h | h
            · exact absurd (List.mem_map.2 ⟨_, h, rfl⟩) hnd'.1
            · exact absurd (List.mem_map.2 ⟨_, h, rfl⟩) hnd'.2.1
        · rw [if_neg hki, hmem k hk1]
          constructor
          · rintro ⟨y', hy'⟩
            rcases List.mem_append.1 hy' with h | h
            · exact ⟨y', by simp [h]⟩
            · rcases List.mem_cons.1 h with h | h
              · cases h; exact absurd rfl hki
              · exact ⟨y', by simp [h]⟩
          · rintro ⟨y', hy'⟩
            rcases List.mem_append.1 hy' with h | h
            · exact ⟨y', by simp [h]⟩
            · exact ⟨y', by simp [h]⟩
      · intro ι2 env2 H2 a2 w2 hk2 hE2 hR2 hX2
        exact h ι2 env2 H2 a2 w2 hk2 hE2 hR2 (hX.trans hX2)

theorem nodup_of_pairs : ∀ {l : List Nat}, pairsAll (fun a b => !(Nat.beq a b)) l = true → l.Nodup
  | [], _ => List.nodup_nil
  | a :: l, h => by
    simp only [pairsAll, Bool.and_eq_true, List.all_eq_true] at h
    refine List.nodup_cons.2 ⟨fun ha => ?_, nodup_of_pairs h.2⟩
    have := h.1 a ha
    simp at this

theorem nodup_of_perm {m : Nat} {l : List Nat} (h : perm m l = true) : l.Nodup ∧ (∀ i, i < m ↔ i ∈ l) ∧ l.length = m := by
  unfold perm at h
  simp only [Bool.and_eq_true, List.all_eq_true, List.mem_range, List.contains_iff_mem] at h
  obtain ⟨⟨⟨h1, h2⟩, h3⟩, h4⟩ := h
  exact ⟨nodup_of_pairs h4, fun i => ⟨h2 i, fun hi => by simpa [Nat.blt, Nat.lt_iff_add_one_le] using h3 i hi⟩, Nat.eq_of_beq_eq_true h1⟩

theorem draw_sound {id : Nat} {ops : Array Oper} {is : List I} (hm : P.follows .mixedOrders = true) (hc : compDraw P n ops.toList = some is) {Q : Ex → Env → Heap → Prop} (hk : wpOps P is env H (Q .normal)) (hE : EnvR n ι w env a) (hR : Rel ι H w) (ro : Option Nat) :
    (Code.region id ops true).wpIn (FW ro) 0 P (PostR n ι H w Q) a w := by
  unfold compDraw at hc
  simp only at hc
  split at hc
  · split at hc
    · rename_i js hjs
      cases hb : (aheadOk ops.toList (ahead ops.toList) && edgesOk ops.toList && perm ops.toList.length (js.map (·.1)) && pairsAll (pairOk (ahead ops.toList)) js && ((ssa (js.map (·.2)) && js.all fun p => !p.2.x.isSm || p.2.o.isE) || js.all fun p => !p.2.x.isSm)) with
      | false => rw [hb] at hc; cases hc
      | true =>
        rw [hb] at hc
        cases hc
        simp only [Bool.and_eq_true] at hb
        obtain ⟨⟨⟨⟨h1, h2⟩, h3⟩, h4⟩, h5⟩ := hb
        have hsm : SmOk js := by
          intro p hp hs
          simp only [Bool.or_eq_true, Bool.and_eq_true, List.all_eq_true, Bool.not_eq_true'] at h5
          rcases h5 with ⟨h5, h6⟩ | h5
          · rcases h6 p hp with h7 | h7
            · rw [hs] at h7; cases h7
            · exact ⟨h5, h7⟩
          · have := h5 p hp; rw [hs] at this; cases this
        obtain ⟨hn1, hn2, hn3⟩ := nodup_of_perm h3
        have hlen : js.length = ops.size := by simpa using hn3
        have hE1 : EnvR n ι { w with drawn := w.drawn + 1 } env a := hE.mono (fun _ _ h => h) Shp.drawn
        have hR1 : Rel ι H { w with drawn := w.drawn + 1 } := ⟨fun i o hi => by obtain ⟨b, off, g1, g2⟩ := hR.obj i o hi; exact ⟨b, off, g1, g2.keep (fun _ _ h => h) Shp.drawn rfl⟩, hR.inj, hR.fin, hR.zero⟩
        have hX1 : Ext ι H w ι H { w with drawn := w.drawn + 1 } := { Ext.refl ι H w with os := rfl, tape := ⟨rfl, Nat.le_succ _⟩, output := rfl, size := Nat.le_refl _, shp := Shp.drawn, frame := fun _ _ _ => rfl }
        refine wpIn_region_any hm ?_
        refine any_sound (n := n) h1 h2 ro ops.size js _ hlen (by simp) ?_ ?_ (compAll_spec hjs) h4 hsm ?_ hn1 hE1 hR1 hk ?_
        · intro i o hi
          exfalso
          by_cases hi' : i < ops.size
          · simp [hi'] at hi
          · simp [hi'] at hi
        · intro i hi
          constructor
          · intro _
            have := (hn2 i).1 (by simpa using hi)
            obtain ⟨p, hp, rfl⟩ := List.mem_map.1 this
            exact ⟨p.2, hp⟩
          · intro _; simp [hi]
        · intro p hp
          have := (hn2 p.1).2 (List.mem_map.2 ⟨p, hp, rfl⟩)
          simpa using this
        · intro ι' env' H' a' w' hk' hE' hR' hX
          exact ⟨.normal, ι', env', H', trivial, hE', hR', hX1.trans hX, hk'⟩
    · cases hc
  · cases hc

end
end Go.CM
