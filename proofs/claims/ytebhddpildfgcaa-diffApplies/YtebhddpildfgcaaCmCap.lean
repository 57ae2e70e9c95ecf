/-
  A program logic over the model's calls, part 28: slices of known capacity; cells copied; functions without bodies.
-/
import Derived.Test.YtebhddpildfgcaaCmMap
namespace Go.CM
section
variable {P : Program} {env : Env} {H : Heap} {Q : Ex → Env → Heap → Prop} {L : List Ob} {K : Env → Heap → Prop} {d : Option Nat} {x : Kx} {is : List I}

/-- A slice's capacity, whichever it is. -/
theorem c_capx {c : C} {id off len e : Nat} (s : Nat) (hs : env s = .slice id off len e) (k : ∀ cap, len ≤ cap → c.wp P Q (env.put (some s) (.sliceC id off len cap e)) H) : c.wp P Q env H :=
  C.join (.capx hs fun cap hc => .here (k cap hc))
/-- A slice that may be nil: both ways. -/
theorem c_nilx {c : C} {off e : Nat} (s : Nat) (hs : env s = .slice 0 off 0 e) (k1 : c.wp P Q (env.put (some s) .nils) H) (k2 : c.wp P Q (env.put (some s) (.slice 1 off 0 e)) H) : c.wp P Q env H :=
  C.join (.nilx hs (.here k1) (.here k2))
/-- Its capacity is forgotten. -/
theorem c_uncap {c : C} {id off len cap e : Nat} (s : Nat) (hs : env s = .sliceC id off len cap e) (k : c.wp P Q (env.put (some s) (.slice id off len e)) H) : c.wp P Q env H :=
  C.wk (put_wk hs (Wk.sliceC _ _ _ _ _)) (HWk.refl H) k
theorem src_sliceC (hh : Has H L) {id off len cap esz : Nat} {b : Bool} {cs vs : List V} (hj : At (id, .cells b cs) L) (hg : getCells cs off (len * (esz + 1)) = some vs) : srcCells H (esz + 1) (.sliceC id off len cap (esz + 1)) = some (len, vs) :=
  src_slice hh hj hg
theorem take_slice (hh : Has H L) {id off len esz k : Nat} {b : Bool} {cs vs : List V} (hj : At (id, .cells b cs) L) (hg : getCells cs off (min len k * (esz + 1)) = some vs) : srcTake H (esz + 1) k (.slice id off len (esz + 1)) = some (len, vs) := by
  cases hz : Nat.beq (min len k) 0 with
  | true =>
    rw [Nat.eq_of_beq_eq_true hz, Nat.zero_mul] at hg
    have := (getCells_some hg).2
    simp only [srcTake, hz, cond_true, this, List.take_zero]
  | false =>
    have hne : cs ≠ [] := fun e => by
      subst e
      have hpos : 0 < min len k := Nat.pos_of_ne_zero fun h => by rw [h] at hz; cases hz
      obtain ⟨q, hq⟩ : ∃ q, min len k * (esz + 1) = q + 1 := ⟨min len k * (esz + 1) - 1, by have := Nat.mul_pos hpos (show 0 < esz + 1 from Nat.succ_pos esz); omega⟩
      rw [hq] at hg
      exact getCells_ne hg rfl
    simp only [srcTake, hz, cond_false, hh.getc hj.mem hne, if_true, hg]
theorem take_sliceC (hh : Has H L) {id off len cap esz k : Nat} {b : Bool} {cs vs : List V} (hj : At (id, .cells b cs) L) (hg : getCells cs off (min len k * (esz + 1)) = some vs) : srcTake H (esz + 1) k (.sliceC id off len cap (esz + 1)) = some (len, vs) :=
  take_slice hh hj hg
/-- Parts of a slice of known capacity. -/
theorem wps_cc01 {y h : X} {id off len cap esz : Nat} {kh : IntKind} {n : Int} (hx : y.ev env = .sliceC id off len cap esz) (hi : h.ev env = .int kh n) (hb : 0 ≤ n ∧ n ≤ (cap : Int)) (k : wpOps P is (env.put d (.sliceC id off n.toNat cap esz)) H K) : wpOps P (⟨d, .rd (.cutSl esz y none (some h)), none, x⟩ :: is) env H K :=
  wps_rd (by simp only [R.ev, hx, Option.map_some, bnd (congrArg some hi) hb]; simp [boundV]) k
theorem wps_cc10 {y l : X} {id off len cap esz : Nat} {kl : IntKind} {n : Int} (hx : y.ev env = .sliceC id off len cap esz) (hl : l.ev env = .int kl n) (hb : 0 ≤ n ∧ n ≤ (len : Int)) (k : wpOps P is (env.put d (.sliceC id (off + n.toNat * esz) (len - n.toNat) (cap - n.toNat) esz)) H K) : wpOps P (⟨d, .rd (.cutSl esz y (some l) none), none, x⟩ :: is) env H K :=
  wps_rd (by simp only [R.ev, hx, Option.map_some, Option.map_none, bndn, bnd (congrArg some hl) hb]; simp) k
theorem wps_cc11 {y l h : X} {id off len cap esz : Nat} {kl kh : IntKind} {n m : Int} (hx : y.ev env = .sliceC id off len cap esz) (hl : l.ev env = .int kl n) (hi : h.ev env = .int kh m) (hb : 0 ≤ n ∧ n ≤ m ∧ m ≤ (cap : Int)) (k : wpOps P is (env.put d (.sliceC id (off + n.toNat * esz) (m.toNat - n.toNat) (cap - n.toNat) esz)) H K) : wpOps P (⟨d, .rd (.cutSl esz y (some l) (some h)), none, x⟩ :: is) env H K :=
  wps_rd (by simp only [R.ev, hx, Option.map_some, bnd (congrArg some hi) (show 0 ≤ m ∧ m ≤ ((cap : Nat) : Int) by omega), bnd (congrArg some hl) (show 0 ≤ n ∧ n ≤ ((m.toNat : Nat) : Int) by omega), if_true]) k
/-- A slice expression with three. -/
theorem wps_c3C {y l h t : X} {id off len cap esz : Nat} {kl kh kt : IntKind} {n m q : Int} (hx : y.ev env = .sliceC id off len cap esz) (hl : l.ev env = .int kl n) (hi : h.ev env = .int kh m) (ht : t.ev env = .int kt q) (hb : 0 ≤ n ∧ n ≤ m ∧ m ≤ q ∧ q ≤ (cap : Int)) (k : wpOps P is (env.put d (.sliceC id (off + n.toNat * esz) (m.toNat - n.toNat) (q.toNat - n.toNat) esz)) H K) :
    wpOps P (⟨d, .rd (.cutSl3 esz y (some l) (some h) t), none, x⟩ :: is) env H K :=
  wps_rd (by simp only [R.ev, hx, Option.map_some, bnd (congrArg some ht) (show 0 ≤ q ∧ q ≤ ((cap : Nat) : Int) by omega), bnd (congrArg some hi) (show 0 ≤ m ∧ m ≤ ((q.toNat : Nat) : Int) by omega), bnd (congrArg some hl) (show 0 ≤ n ∧ n ≤ ((m.toNat : Nat) : Int) by omega), if_true]) k
/-- Cells copied to a part of a row. -/
theorem wps_copy (hh : Has H L) {esz m id off len : Nat} {y s : X} {cs cs' vs : List V} {L' : List Ob} (hd : y.ev env = .slice id off len (esz + 1)) (hs : srcTake H (esz + 1) len (s.ev env) = some (m, vs)) (ho : off ≤ cs.length) (hc : cs ≠ []) (he : splice cs off vs = cs')
    (hu : Upd (id, .cells true cs) [(id, .cells true cs')] L L') (k : ∀ H', Has H' L' → wpOps P is (env.put d (.int .i64 (min m len : Nat))) H' K) : wpOps P (⟨d, .ef (.copy (esz + 1) y s), none, .no⟩ :: is) env H K := by
  subst he
  have h0 := hh.ne0 hu.at hc
  exact .inr ⟨id, off, len, cs, m, vs, .inl hd, hs, hh.get hu.at h0, ho, trivial, k _ (hh.set h0 hu)⟩
theorem wps_copyC (hh : Has H L) {esz m id off len cap : Nat} {y s : X} {cs cs' vs : List V} {L' : List Ob} (hd : y.ev env = .sliceC id off len cap (esz + 1)) (hs : srcTake H (esz + 1) len (s.ev env) = some (m, vs)) (ho : off ≤ cs.length) (hc : cs ≠ []) (he : splice cs off vs = cs')
    (hu : Upd (id, .cells true cs) [(id, .cells true cs')] L L') (k : ∀ H', Has H' L' → wpOps P is (env.put d (.int .i64 (min m len : Nat))) H' K) : wpOps P (⟨d, .ef (.copy (esz + 1) y s), none, .no⟩ :: is) env H K := by
  subst he
  have h0 := hh.ne0 hu.at hc
  exact .inr ⟨id, off, len, cs, m, vs, .inr ⟨cap, hd⟩, hs, hh.get hu.at h0, ho, trivial, k _ (hh.set h0 hu)⟩
/-- An append where there is room: in place. -/
theorem wps_appI (hh : Has H L) {esz by_ m id off len cap : Nat} {y s : X} {cs cs' vs : List V} {L' : List Ob} (hd : y.ev env = .sliceC id off len cap esz) (hs : srcCells H esz (s.ev env) = some (m, vs)) (ho : off + len * esz ≤ cs.length) (hc : cs ≠ []) (hr : len + m ≤ cap) (he : splice cs (off + len * esz) vs = cs')
    (hu : Upd (id, .cells true cs) [(id, .cells true cs')] L L') (k : ∀ H', Has H' L' → wpOps P is (env.put d (.sliceC id off (len + m) cap esz)) H' K) : wpOps P (⟨d, .ef (.app esz by_ y s), none, .no⟩ :: is) env H K := by
  subst he
  have h0 := hh.ne0 hu.at hc
  exact ⟨m, vs, hs, .inr (.inr (.inr (.inl ⟨id, off, len, cap, cs, hd, hh.get hu.at h0, ho, hr, trivial, k _ (hh.set h0 hu)⟩)))⟩
/-- .. where there is none: a row of its own; the other stays. -/
theorem wps_appG (hh : Has H L) {esz by_ m id off len cap : Nat} {y s : X} {cs vs : List V} (hd : y.ev env = .sliceC id off len cap esz) (hs : srcCells H esz (s.ev env) = some (m, vs)) (hi : At (id, .cells true cs) L) (ho : off + len * esz ≤ cs.length) (hc : cs ≠ []) (hr : cap < len + m) (hb : (len + m) * by_ ≤ 140737488355328)
    (k : ∀ id' H', Has H' ((id', .cells true ((cs.drop off).take (len * esz) ++ vs)) :: L) → wpOps P is (env.put d (.slice id' 0 (len + m) esz)) H' K) : wpOps P (⟨d, .ef (.app esz by_ y s), none, x⟩ :: is) env H K :=
  ⟨m, vs, hs, .inr (.inr (.inr (.inr ⟨id, off, len, cap, cs, hd, hh.getc hi.mem hc, ho, hr, hb, fun id' h0 hid => ⟨Kx.le (Heap.le_set _ hid), k id' _ (hh.new h0 hid)⟩⟩)))⟩
/-- So many zero values behind a row that has no room for them. -/
theorem wps_appz (hh : Has H L) {esz by_ id off len cap m : Nat} {z : List V} {kx : IntKind} {y s : X} {cs : List V} (hs : s.ev env = .int kx (m : Nat)) (hd : y.ev env = .sliceC id off len cap esz) (hi : At (id, .cells true cs) L) (ho : off + len * esz ≤ cs.length) (hc : cs ≠ []) (hr : cap < len + m) (hb : (len + m) * by_ ≤ 140737488355328)
    (k : ∀ id' H', Has H' ((id', .cells true ((cs.drop off).take (len * esz) ++ rep z m)) :: L) → wpOps P is (env.put d (.slice id' 0 (len + m) esz)) H' K) : wpOps P (⟨d, .ef (.appz esz by_ z y s), none, x⟩ :: is) env H K :=
  ⟨kx, m, id, off, len, cap, cs, hs, Int.natCast_nonneg m, hd, hh.getc hi.mem hc, ho, hr, hb, fun id' h0 hid => ⟨Kx.le (Heap.le_set _ hid), k id' _ (hh.new h0 hid)⟩⟩
theorem wps_clrC (hh : Has H L) {esz : Nat} {z : List V} {y : X} {id off len cap : Nat} {cs cs' : List V} {L' : List Ob} (hy : y.ev env = .sliceC id off len cap esz) (hfit : off + len * esz ≤ cs.length) (hc : cs ≠ []) (hs : splice cs off (rep z len) = cs')
    (hu : Upd (id, .cells true cs) [(id, .cells true cs')] L L') (k : ∀ H', Has H' L' → wpOps P is (env.put d V.undef) H' K) : wpOps P (⟨d, .ef (.clr esz z y), none, .no⟩ :: is) env H K := by
  subst hs
  have h0 := hh.ne0 hu.at hc
  exact .inr (.inr (.inr ⟨id, off, len, cap, cs, hy, hh.get hu.at h0, hfit, trivial, k _ (hh.set h0 hu)⟩))
/-- A function without a body. -/
theorem wps_ext {f : FuncId} {args : List X} {vs : List V} {v : V} (ha : args.map (X.ev env) = vs) (hx : ∀ (ι : Pl) (w : World) (us : List Value), Rel ι H w → VRs ι w vs us → ∃ u, (callFunc f ⟨us⟩).run P w = .ok (.value u) w ∧ VR ι w v u)
    (k : wpOps P is (env.put d v) H K) : wpOps P (⟨d, .ef (.call f args), none, x⟩ :: is) env H K := by
  subst ha
  exact .inr ⟨v, hx, Kx.refl, k⟩
end
end Go.CM
