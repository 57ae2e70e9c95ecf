/-
  A program logic over the model's calls, part 16: regions, code, functions.
-/
import Derived.Test.YtebhddpildfgcaaCmSwap
namespace Go.CM

/-- What a piece of code leaves. -/
def exitR : Ex → Exit → Prop
  | .normal, .normal => True
  | .exit i, .exit j => i = j
  | .ret, .ret => True
  | _, _ => False

def PostR (n : Nat) (ι : Pl) (H : Heap) (w : World) (Q : Ex → Env → Heap → Prop) : Exit → Act → World → Prop := fun e a' w' =>
  ∃ (x : Ex) (ι' : Pl) (env' : Env) (H' : Heap), exitR x e ∧ EnvR n ι' w' env' a' ∧ Rel ι' H' w' ∧ Ext ι H w ι' H' w' ∧ Q x env' H'

section
variable {P : Program} {n : Nat} {ι : Pl} {H : Heap} {w : World} {env : Env} {a : Act}

theorem yielded_ok (hE : EnvR n ι w env a) {ops : Array Oper} {j : Nat} {p : Oper} (hp : ops[j]? = some p) {s : Nat} (hs : p.dst = some s) (hlt : s < n) (b : Bool) :
    (yielded ops a.tmps j == some b) = (match env s with | .bool c => c == b | _ => false) := by
  have hv := hE.vals s hlt
  have hsz : s < a.tmps.size := by rw [hE.size]; exact hlt
  have ht : a.tmps[s]? = some (a.tmps.getD s Go.undef) := by simp [hsz]
  unfold yielded
  simp only [hp, Option.bind_some, hs, ht]
  generalize a.tmps.getD s Go.undef = u at *
  generalize env s = z at *
  cases hv <;> first | rfl | (simp; done)

theorem I.sound (hE : EnvR n ι w env a) (hR : Rel ι H w) {ops : Array Oper} {o : Oper} {x : Kx} {i : I} (hc : compI P n ops.toList o x = some i) {k : Nat} (ho : ops[k]? = some o) {Kc : Env → Heap → Prop} (hk : i.wp P env H Kc)
    {Kw : Act → World → Prop} {Qw : Exit → Act → World → Prop}
    (h : ∀ ι' env' H' a' w', Kc env' H' → EnvR n ι' w' env' a' → Rel ι' H' w' → Ext ι H w ι' H' w' → Kw a' w') (ro : Option Nat) : wpOpIn (FW ro) 0 P ops Qw k Kw a w := by
  unfold compI at hc
  cases hd : dstOk n o.dst with
  | false => rw [hd] at hc; cases hc
  | true =>
    rw [hd] at hc
    simp only [cond_true] at hc
    split at hc
    · rename_i oo hoo
      have run : ∀ (i : I), i.o = oo → i.d = o.dst → i.run P env H Kc → o.wpIn (FW ro) 0 P a w Kw Qw := by
        intro i h1 h2 hrun
        unfold I.run at hrun
        rw [h1, h2] at hrun
        refine O.sound hE hR hoo hrun ro Kw Qw ?_
        intro v ι' H' u w' hk hv hR' hE'
        exact h ι' _ H' _ w' hk.2 ((hE.mono hE'.pl hE'.shp).put hd hv) hR' hE'
      have skip : Kc (env.put o.dst V.undef) H → Kw (a.put o.dst Go.undef) w := fun hk => h ι _ H _ w hk (hE.put hd (VR.undef _ _)) hR (Ext.refl _ _ _)
      unfold wpOpIn
      simp only [ho]
      split at hc
      · rename_i hg
        cases hc
        have hw : Region.wanted o (yielded ops a.tmps) = true := by simp [Region.wanted, hg]
        simp only [hw, if_true]
        exact run _ rfl rfl hk
      · rename_i j b hg
        split at hc
        · rename_i p hp
          split at hc
          · rename_i s hs
            cases hlt : Nat.blt s n with
            | false => rw [hlt] at hc; cases hc
            | true =>
              rw [hlt] at hc
              cases hc
              have hlt' : s < n := by simpa [Nat.blt, Nat.lt_iff_add_one_le] using hlt
              have hw : Region.wanted o (yielded ops a.tmps) = (match env s with | .bool c => c == b | _ => false) := by
                simp only [Region.wanted, hg]
                exact yielded_ok hE (by rw [← Array.getElem?_toList]; exact hp) hs hlt' b
              simp only [I.wp] at hk
              cases hv : env s with
              | bool c =>
                rw [hv] at hk hw
                simp only [gcond] at hk hw
                cases hcb : c == b with
                | true =>
                  rw [hcb] at hk hw
                  simp only [hw, if_true]
                  exact run _ rfl rfl hk
                | false =>
                  rw [hcb] at hk hw
                  simp only [hw, Bool.false_eq_true, if_false]
                  exact ⟨fun _ _ => trivial, skip hk⟩
              | _ =>
                rw [hv] at hk hw
                simp only [hw, Bool.false_eq_true, if_false]
                exact ⟨fun _ _ => trivial, skip hk⟩
          · cases hc
        · cases hc
    · cases hc

/-- Operations one behind the other. -/
theorem ops_sound {ops : Array Oper} {Q : Exit → Act → World → Prop} {Kc : Env → Heap → Prop} (ro : Option Nat) : ∀ (l : List Oper) (k : Nat) {is : List I} {ι : Pl} {env : Env} {H : Heap} {a : Act} {w : World},
    (∀ j o, l[j]? = some o → ops[k + j]? = some o) → compIs P n ops.toList l = some is → EnvR n ι w env a → Rel ι H w → wpOps P is env H Kc →
    (∀ ι' env' H' a' w', Kc env' H' → EnvR n ι' w' env' a' → Rel ι' H' w' → Ext ι H w ι' H' w' → Q .normal a' w') →
    wpOpsIn (FW ro) 0 P ops Q (List.range' k l.length) a w
  | [], k, is, ι, env, H, a, w, _, hc, hE, hR, hk, h => by
    simp only [compIs] at hc
    cases hc
    exact h ι env H a w hk hE hR (Ext.refl _ _ _)
  | o :: l, k, is, ι, env, H, a, w, hl, hc, hE, hR, hk, h => by
    unfold compIs at hc
    split at hc
    · rename_i i is' h1 h2
      cases hc
      simp only [List.length_cons, List.range'_succ]
      rw [wpOpsIn_cons]
      refine I.sound hE hR h1 (hl 0 o rfl) hk ?_ ro
      intro ι' env' H' a' w' hk' hE' hR' hX
      refine ops_sound ro l (k + 1) (fun j o hj => by rw [show k + 1 + j = k + (j + 1) by omega]; exact hl (j + 1) o (by simpa using hj)) h2 hE' hR' hk' ?_
      intro ι2 env2 H2 a2 w2 hk2 hE2 hR2 hX2
      exact h ι2 env2 H2 a2 w2 hk2 hE2 hR2 (hX.trans hX2)
    · cases hc

theorem region_sound {id : Nat} {ops : Array Oper} {is : List I} (hc : compIs P n ops.toList ops.toList = some is) {Q : Ex → Env → Heap → Prop} (hk : wpOps P is env H (Q .normal)) (hE : EnvR n ι w env a) (hR : Rel ι H w) (ro : Option Nat) :
    (Code.region id ops false).wpIn (FW ro) 0 P (PostR n ι H w Q) a w := by
  refine wpIn_region ?_
  have := ops_sound (P := P) (n := n) (ops := ops) (Q := PostR n ι H w Q) (Kc := Q .normal) ro ops.toList 0 (fun j o hj => by rw [Nat.zero_add, ← Array.getElem?_toList]; exact hj) hc hE hR hk
    (fun ι' env' H' a' w' hk' hE' hR' hX => ⟨.normal, ι', env', H', trivial, hE', hR', hX, hk'⟩)
  rw [List.range_eq_range']
  simpa using this

end
end Go.CM
