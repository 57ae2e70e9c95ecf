/-
  Entries: their cells, their names; the document's lists of them.
-/
import Derived.Test.YtebhddpildfgcaaBaseA
namespace Go.Proofs.Ytebhddpildfgcaa
open Go Go.CM
set_option maxRecDepth 100000
set_option maxHeartbeats 4000000

structure Entry where
  tenant : Int
  key : List UInt8
  state : Int
  epoch : Int
  token : Int
  point : Int
  print : List UInt8
  lease : Int
  expiry : Int
  status : Int
  text : List UInt8
  method : List UInt8
  path : List UInt8
  body : List UInt8
  deriving Inhabited, DecidableEq
def Entry.enc (e : Entry) : List V := [.int .i64 e.tenant, .str e.key, .int .i64 e.state, .int .i64 e.epoch, .int .i64 e.token, .int .i64 e.point, .str e.print, .int .i64 e.lease, .int .i64 e.expiry, .int .i64 e.status, .str e.text, .str e.method, .str e.path, .str e.body]
def Entry.zero : Entry := ⟨0, [], 0, 0, 0, 0, [], 0, 0, 0, [], [], [], []⟩
def enm (e : Entry) : Nm := (e.tenant, e.key)
abbrev entK : List SK := [.i, .s, .i, .i, .i, .i, .s, .i, .i, .i, .s, .s, .s, .s]
def entB (a b : Entry) : Bool := a.tenant == b.tenant && (a.key == b.key && (a.state == b.state && (a.epoch == b.epoch && (a.token == b.token && (a.point == b.point && (a.print == b.print && (a.lease == b.lease && (a.expiry == b.expiry && (a.status == b.status && (a.text == b.text && (a.method == b.method && (a.path == b.path && (a.body == b.body && true)))))))))))))
theorem entB_eq (a b : Entry) : entB a b = decide (a = b) := by
  rw [Bool.eq_iff_iff]
  simp only [entB, Bool.and_eq_true, beq_iff_eq, and_true, decide_eq_true_eq]
  constructor
  · rintro ⟨h1, h2, h3, h4, h5, h6, h7, h8, h9, h10, h11, h12, h13, h14⟩
    cases a; cases b; simp_all
  · rintro rfl; simp
theorem ent_eq (a b : Entry) : eqV (.agg entK) (.agg a.enc) (.agg b.enc) = some (entB a b) := rfl
abbrev EL (s : Nat) (b : Bool) (l : List Entry) : Ob := (s, .cells b (l.flatMap Entry.enc))
theorem el_len (l : List Entry) : (l.flatMap Entry.enc).length = l.length * 14 := rows_length (sz := 14) (fun _ => rfl) l
theorem ent_inj : ∀ x y : Entry, x.enc = y.enc → x = y := by
  intro a b h
  cases a; cases b
  simp only [Entry.enc, List.cons.injEq, V.int.injEq, V.str.injEq, true_and, and_true] at h
  simp_all

/-! The document's lists. -/
theorem rahead_prog (a b : Nm) : CallsR Try.prog nref15_Ahead [.int .i64 a.1, .str a.2, .int .i64 b.1, .str b.2] [] fun v => v = .bool (ahd a b) := by
  refine sref15_Ahead fun H hh => ?_
  dsimp only [cref15_Ahead]
  refine walk (k := ?_)
  repeat' first | refine And.intro ?_ ?_ | intro
  all_goals refine leaf ?_
  all_goals refine doneR (congrArg V.bool ?_)
  all_goals rw [eq_comm]
  all_goals simp_all [ahd, strLess]
/-- Where a name stands, or would stand. -/
def plN (l : List Entry) (n : Nm) : Nat := (l.takeWhile fun e => ahd (enm e) n).length
def isN (l : List Entry) (n : Nm) : Bool := decide (plN l n < l.length) && decide (enm (nth l (plN l n)) = n)
theorem plN_le (l : List Entry) (n : Nm) : plN l n ≤ l.length := (List.takeWhile_sublist _).length_le
theorem whileE_at {p : Entry → Bool} : ∀ {l : List Entry} {i : Nat}, i ≤ l.length → (l.take i).all p = true → (i = l.length ∨ p (nth l i) = false) → l.takeWhile p = l.take i
  | [], i, _, _, _ => by simp
  | a :: l, 0, _, _, h => by
    rcases h with h | h
    · simp at h
    · rw [nth_zero] at h; simp [h]
  | a :: l, i + 1, hi, ha, h => by
    rw [List.take_succ_cons, List.all_cons, Bool.and_eq_true] at ha
    have := whileE_at (l := l) (i := i) (by simpa using hi) ha.2 (by rw [nth_succ] at h; simpa using h)
    simp [ha.1, this]
theorem plN_at {l : List Entry} {n : Nm} {i : Nat} (hi : i ≤ l.length) (ha : (l.take i).all (fun e => ahd (enm e) n) = true) (h : i = l.length ∨ ahd (enm (nth l i)) n = false) : plN l n = i := by
  unfold plN
  rw [whileE_at hi ha h, List.length_take, Nat.min_eq_left hi]
theorem allE_step {q : Entry → Bool} {l : List Entry} {i : Nat} (hi : i < l.length) (hall : (l.take i).all q = true) (hq : q (nth l i) = true) : (l.take (i + 1)).all q = true := by
  rw [take_getD hi, List.all_append, hall]; simp [hq]
theorem rplace_prog (s : Nat) (b : Bool) (l : List Entry) (n : Nm) (hl : l.length ≤ 100000) : CallsR Try.prog nref15_place [.slice s 0 l.length 14, .int .i64 n.1, .str n.2] [EL s b l] fun v => v = .tup [.int .i64 (plN l n), .bool (isN l n)] := by
  refine sref15_place fun H hh => ?_
  dsimp only [cref15_place]
  refine walk (k := ?_)
  repeat' first | refine And.intro ?_ ?_ | intro
  all_goals refine leaf ?_
  refine loopN [0, 1, 2, 8] l.length (fun i vs L => (l.take i).all (fun e => ahd (enm e) n) = true ∧ vs = [.slice s 0 l.length 14, .int .i64 n.1, .str n.2, .int .i64 i] ∧ L = [EL s b l]) (Nx.here ⟨by simp, rfl, rfl⟩) ?_
  clear hh
  rintro i _ _ e H hi ⟨hall, rfl, rfl⟩ hh
  simp only [puts]
  by_cases hn : i < l.length
  · skip
    refine walk1 (k := ?_)
    repeat' first | refine And.intro ?_ ?_ | intro
    all_goals refine leaf ?_
    refine c_cond_t (by show V.bool _ = _; simp; omega) ?_
    refine walk1 (k := ?_)
    repeat' first | refine And.intro ?_ ?_ | intro
    all_goals refine leaf ?_
    have hra := rahead_prog (enm (nth l i)) n
    cases ha : ahd (enm (nth l i)) n with
    | true =>
      rw [ha] at hra
      refine callE (hra) ?_
      refine walk1 (k := ?_)
      repeat' first | refine And.intro ?_ ?_ | intro
      all_goals refine leaf ?_
      exact Nx.next hn ⟨allE_step hn hall ha, rfl, rfl⟩
    | false =>
      rw [ha] at hra
      have hp := plN_at (n := n) hi hall (.inr ha)
      have hb : isN l n = decide (enm (nth l i) = n) := by rw [isN, hp, decide_eq_true hn, Bool.true_and]
      refine callE (hra) ?_
      refine walk1 (k := ?_)
      repeat' first | refine And.intro ?_ ?_ | intro
      all_goals refine leaf ?_
      by_cases ht : (nth l i).tenant = n.1
      · refine wps_slot (s := 37) (v := .bool true) (by show V.bool _ = _; simp [ht]) ?_
        refine walk1 (k := ?_)
        repeat' first | refine And.intro ?_ ?_ | intro
        all_goals refine leaf ?_
        refine doneR ?_
        rw [hp, hb]
        rw [show decide (enm (nth l i) = n) = ((nth l i).key == n.2) from by rw [Bool.eq_iff_iff, decide_eq_true_iff, beq_iff_eq]; exact ⟨fun h => congrArg Prod.snd h, fun h => Prod.ext ht h⟩]
      · refine wps_slot (s := 37) (v := .bool false) (by show V.bool _ = _; simp [ht]) ?_
        refine walk1 (k := ?_)
        repeat' first | refine And.intro ?_ ?_ | intro
        all_goals refine leaf ?_
        refine doneR ?_
        rw [hp, hb, decide_eq_false (fun h => ht (congrArg Prod.fst h))]
  · skip
    refine walk1 (k := ?_)
    repeat' first | refine And.intro ?_ ?_ | intro
    all_goals refine leaf ?_
    refine c_cond_f (by show V.bool _ = _; simp; omega) ?_
    refine walk1 (k := ?_)
    repeat' first | refine And.intro ?_ ?_ | intro
    all_goals refine leaf ?_
    have hil : i = l.length := by omega
    have hp := plN_at (n := n) hi hall (.inl hil)
    refine doneR ?_
    rw [isN, hp, hil, decide_eq_false (by omega), Bool.false_and]
def putL (l : List Entry) (e : Entry) : List Entry := l.take (plN l (enm e)) ++ e :: l.drop (if isN l (enm e) then plN l (enm e) + 1 else plN l (enm e))
def dropL (l : List Entry) (n : Nm) : List Entry := l.take (plN l n) ++ l.drop (if isN l n then plN l n + 1 else plN l n)
theorem isN_lt {l : List Entry} {n : Nm} (h : isN l n = true) : plN l n < l.length := by
  simp only [isN, Bool.and_eq_true, decide_eq_true_eq] at h; exact h.1
theorem putL_le (l : List Entry) (e : Entry) : (putL l e).length ≤ l.length + 1 := by
  have := plN_le l (enm e)
  unfold putL
  rw [List.length_append, List.length_take, List.length_cons, List.length_drop]
  split <;> omega
theorem dropL_le (l : List Entry) (n : Nm) : (dropL l n).length ≤ l.length := by
  have := plN_le l n
  unfold dropL
  rw [List.length_append, List.length_take, List.length_drop]
  split <;> omega
theorem rput_prog (s : Nat) (b : Bool) (l : List Entry) (x : Entry) (hl : l.length ≤ 100000) : CallsN Try.prog nref15_Put [.slice s 0 l.length 14, .agg x.enc] [EL s b l] fun v Lo => ∃ o, v = .slice o 0 (putL l x).length 14 ∧ Lo = [EL o true (putL l x)] := by
  have hpl := rplace_prog s b l (enm x) hl
  have hle := plN_le l (enm x)
  refine sref15_Put fun H hh => ?_
  dsimp only [cref15_Put]
  refine walk (k := ?_)
  repeat' first | refine And.intro ?_ ?_ | intro
  all_goals refine leaf ?_
  refine callE (hpl) ?_
  refine walk1 (k := ?_)
  repeat' first | refine And.intro ?_ ?_ | intro
  all_goals refine leaf ?_
  rename_i xid _ _ lid _ hh
  refine wps_apppart hh l (l := []) (enc := Entry.enc) (m := 13) (n := plN l (enm x)) (i := 0) (L' := fun o3 => [EL o3 true ([] ++ (l.drop 0).take (plN l (enm x))), (xid, .cells true x.enc), EL s b l]) rfl rfl (.there (.there .here)) (fun _ => rfl) (by omega) (fun o3 => .here1) (by simp; omega) fun o3 _ hh => ?_
  rw [List.nil_append, List.drop_zero] at hh ⊢
  have htk : (l.take (plN l (enm x))).length = plN l (enm x) := by simp; omega
  refine walk1 (k := ?_)
  repeat' first | refine And.intro ?_ ?_ | intro
  all_goals refine leaf ?_
  rename_i t2 o4 _ hh
  cases hb : isN l (enm x) with
  | true =>
    have hlt := isN_lt hb
    refine walk1 (k := ?_)
    repeat' first | refine And.intro ?_ ?_ | intro
    all_goals refine leaf ?_
    refine wps_apppart hh l (l := l.take (plN l (enm x)) ++ [x]) (enc := Entry.enc) (m := 13) (n := l.length - (plN l (enm x) + 1)) (i := plN l (enm x) + 1) (L' := fun o5 => [EL o5 true (l.take (plN l (enm x)) ++ [x] ++ (l.drop (plN l (enm x) + 1)).take (l.length - (plN l (enm x) + 1))), (xid, .cells true x.enc), EL s b l]) rfl rfl (.there (.there .here)) (fun _ => rfl) (by omega) (fun o5 => .here1) (by simp; omega) fun o5 _ hh => ?_
    rw [show l.take (plN l (enm x)) ++ [x] ++ (l.drop (plN l (enm x) + 1)).take (l.length - (plN l (enm x) + 1)) = putL l x by rw [putL, if_pos hb, List.take_of_length_le (l := l.drop (plN l (enm x) + 1)) (by simp), List.append_assoc]; rfl] at hh ⊢
    refine walk (k := ?_)
    repeat' first | refine And.intro ?_ ?_ | intro
    all_goals refine leaf ?_
    exact doneN ⟨o5, rfl, rfl⟩
  | false =>
    refine walk1 (k := ?_)
    repeat' first | refine And.intro ?_ ?_ | intro
    all_goals refine leaf ?_
    refine wps_apppart hh l (l := l.take (plN l (enm x)) ++ [x]) (enc := Entry.enc) (m := 13) (n := l.length - plN l (enm x)) (i := plN l (enm x)) (L' := fun o5 => [EL o5 true (l.take (plN l (enm x)) ++ [x] ++ (l.drop (plN l (enm x))).take (l.length - plN l (enm x))), (xid, .cells true x.enc), EL s b l]) rfl rfl (.there (.there .here)) (fun _ => rfl) (by omega) (fun o5 => .here1) (by simp; omega) fun o5 _ hh => ?_
    rw [show l.take (plN l (enm x)) ++ [x] ++ (l.drop (plN l (enm x))).take (l.length - plN l (enm x)) = putL l x by rw [putL, if_neg (by rw [hb]; simp), List.take_of_length_le (l := l.drop (plN l (enm x))) (by simp), List.append_assoc]; rfl] at hh ⊢
    refine walk (k := ?_)
    repeat' first | refine And.intro ?_ ?_ | intro
    all_goals refine leaf ?_
    exact doneN ⟨o5, rfl, rfl⟩
theorem rdrop_prog (s : Nat) (b : Bool) (l : List Entry) (n : Nm) (hl : l.length ≤ 100000) : CallsN Try.prog nref15_Drop [.slice s 0 l.length 14, .int .i64 n.1, .str n.2] [EL s b l] fun v Lo => ∃ o, v = .slice o 0 (dropL l n).length 14 ∧ Lo = [EL o true (dropL l n)] := by
  have hpl := rplace_prog s b l n hl
  have hle := plN_le l n
  refine sref15_Drop fun H hh => ?_
  dsimp only [cref15_Drop]
  refine walk (k := ?_)
  repeat' first | refine And.intro ?_ ?_ | intro
  all_goals refine leaf ?_
  refine callE (hpl) ?_
  refine walk1 (k := ?_)
  repeat' first | refine And.intro ?_ ?_ | intro
  all_goals refine leaf ?_
  rename_i lid _ hh
  refine wps_apppart hh l (l := []) (enc := Entry.enc) (m := 13) (n := plN l n) (i := 0) (L' := fun o3 => [EL o3 true ([] ++ (l.drop 0).take (plN l n)), EL s b l]) rfl rfl (.there .here) (fun _ => rfl) (by omega) (fun o3 => .here1) (by simp; omega) fun o3 _ hh => ?_
  rw [List.nil_append, List.drop_zero] at hh ⊢
  have htk : (l.take (plN l n)).length = plN l n := by simp; omega
  cases hb : isN l n with
  | true =>
    have hlt := isN_lt hb
    refine walk1 (k := ?_)
    repeat' first | refine And.intro ?_ ?_ | intro
    all_goals refine leaf ?_
    refine wps_apppart hh l (l := l.take (plN l n)) (enc := Entry.enc) (m := 13) (n := l.length - (plN l n + 1)) (i := plN l n + 1) (L' := fun o5 => [EL o5 true (l.take (plN l n) ++ (l.drop (plN l n + 1)).take (l.length - (plN l n + 1))), EL s b l]) rfl rfl (.there .here) (fun _ => rfl) (by omega) (fun o5 => .here1) (by simp; omega) fun o5 _ hh => ?_
    rw [show l.take (plN l n) ++ (l.drop (plN l n + 1)).take (l.length - (plN l n + 1)) = dropL l n by rw [dropL, if_pos hb, List.take_of_length_le (l := l.drop (plN l n + 1)) (by simp)]] at hh ⊢
    refine walk (k := ?_)
    repeat' first | refine And.intro ?_ ?_ | intro
    all_goals refine leaf ?_
    exact doneN ⟨o5, rfl, rfl⟩
  | false =>
    refine walk1 (k := ?_)
    repeat' first | refine And.intro ?_ ?_ | intro
    all_goals refine leaf ?_
    refine wps_apppart hh l (l := l.take (plN l n)) (enc := Entry.enc) (m := 13) (n := l.length - plN l n) (i := plN l n) (L' := fun o5 => [EL o5 true (l.take (plN l n) ++ (l.drop (plN l n)).take (l.length - plN l n)), EL s b l]) rfl rfl (.there .here) (fun _ => rfl) (by omega) (fun o5 => .here1) (by simp; omega) fun o5 _ hh => ?_
    rw [show l.take (plN l n) ++ (l.drop (plN l n)).take (l.length - plN l n) = dropL l n by rw [dropL, if_neg (by rw [hb]; simp), List.take_of_length_le (l := l.drop (plN l n)) (by simp)]] at hh ⊢
    refine walk (k := ?_)
    repeat' first | refine And.intro ?_ ?_ | intro
    all_goals refine leaf ?_
    exact doneN ⟨o5, rfl, rfl⟩
theorem rsameE_prog (x w : Nat) (a b : Bool) (l r : List Entry) (hl : l.length ≤ 100000) : CallsR Try.prog nref15_Same [.slice x 0 l.length 14, .slice w 0 r.length 14] [EL x a l, EL w b r] fun v => v = .bool (decide (l = r)) := by
  refine sref15_Same fun H hh => ?_
  dsimp only [cref15_Same]
  refine walk (k := ?_)
  repeat' first | refine And.intro ?_ ?_ | intro
  all_goals refine leaf ?_
  · rename_i h
    refine doneR (congrArg V.bool ?_)
    rw [eq_comm, decide_eq_false_iff_not]
    rintro rfl
    exact h rfl
  rename_i h
  have hlm : l.length = r.length := by omega
  clear h
  refine loopN [0, 1, 5] l.length (fun i vs L => l.take i = r.take i ∧ vs = [.slice x 0 l.length 14, .slice w 0 r.length 14, .int .i64 i] ∧ L = [EL x a l, EL w b r]) (Nx.here ⟨by simp, rfl, rfl⟩) ?_
  clear hh
  rintro i _ _ e H hi ⟨hall, rfl, rfl⟩ hh
  simp only [puts]
  by_cases hn : i < l.length
  · skip
    refine walk1 (k := ?_)
    repeat' first | refine And.intro ?_ ?_ | intro
    all_goals refine leaf ?_
    refine c_cond_t (by show V.bool _ = _; simp; omega) ?_
    refine walk1 (k := ?_)
    repeat' first | refine And.intro ?_ ?_ | intro
    all_goals refine leaf ?_
    have t1 := take_getD hn
    have t2 := take_getD (l := r) (i := i) (by omega)
    by_cases heq : nth l i = nth r i
    · refine c_cond_f (by show V.bool (!entB (nth l i) (nth r i)) = _; rw [entB_eq, decide_eq_true heq]; rfl) ?_
      refine walk1 (k := ?_)
      repeat' first | refine And.intro ?_ ?_ | intro
      all_goals refine leaf ?_
      exact Nx.next hn ⟨by rw [t1, t2, hall, heq], rfl, rfl⟩
    · refine c_cond_t (by show V.bool (!entB (nth l i) (nth r i)) = _; rw [entB_eq, decide_eq_false heq]; rfl) ?_
      refine walk1 (k := ?_)
      repeat' first | refine And.intro ?_ ?_ | intro
      all_goals refine leaf ?_
      refine doneR (congrArg V.bool ?_)
      rw [eq_comm, decide_eq_false_iff_not]
      rintro rfl
      exact heq rfl
  · skip
    refine walk1 (k := ?_)
    repeat' first | refine And.intro ?_ ?_ | intro
    all_goals refine leaf ?_
    refine c_cond_f (by show V.bool _ = _; simp; omega) ?_
    refine walk1 (k := ?_)
    repeat' first | refine And.intro ?_ ?_ | intro
    all_goals refine leaf ?_
    have : i = l.length := by omega
    subst this
    refine doneR (congrArg V.bool ?_)
    rw [eq_comm, decide_eq_true_iff]
    rw [List.take_length, hlm, List.take_length] at hall
    exact hall
end Go.Proofs.Ytebhddpildfgcaa
