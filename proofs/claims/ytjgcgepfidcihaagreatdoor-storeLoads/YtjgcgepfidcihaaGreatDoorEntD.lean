/-
  Entries: their cells.
-/
import Derived.Test.YtjgcgepfidcihaaGreatDoorC0
import Derived.Test.YtjgcgepfidcihaaGreatDoorC1
import Derived.Test.YtjgcgepfidcihaaGreatDoorC2
import Derived.Test.YtjgcgepfidcihaaGreatDoorCmG
namespace Go.Proofs.YtjgcgepfidcihaaGreatDoor
open Go Go.CM
set_option maxRecDepth 100000
set_option maxHeartbeats 4000000

theorem catV {a b : List UInt8} (h : a.length + b.length ≤ 9223372036854775807) : binV .add (.str a) (.str b) = some (.str (a ++ b)) := if_neg (show ¬ ((a.length + b.length : Nat) : Int) > 9223372036854775807 by omega)
structure Entry where
  tenant : Int
  key : List UInt8
  state : Int
  epoch : Int
  token : Int
  point : Int
  print : List UInt8
  lease : Int
  expiry : Int
  status : Int
  text : List UInt8
  method : List UInt8
  path : List UInt8
  body : List UInt8
  deriving Inhabited, DecidableEq
def Entry.enc (e : Entry) : List V := [.int .i64 e.tenant, .str e.key, .int .i64 e.state, .int .i64 e.epoch, .int .i64 e.token, .int .i64 e.point, .str e.print, .int .i64 e.lease, .int .i64 e.expiry, .int .i64 e.status, .str e.text, .str e.method, .str e.path, .str e.body]
def Entry.zero : Entry := ⟨0, [], 0, 0, 0, 0, [], 0, 0, 0, [], [], [], []⟩
abbrev entK : List SK := [.i, .s, .i, .i, .i, .i, .s, .i, .i, .i, .s, .s, .s, .s]
def entB (a b : Entry) : Bool := a.tenant == b.tenant && (a.key == b.key && (a.state == b.state && (a.epoch == b.epoch && (a.token == b.token && (a.point == b.point && (a.print == b.print && (a.lease == b.lease && (a.expiry == b.expiry && (a.status == b.status && (a.text == b.text && (a.method == b.method && (a.path == b.path && (a.body == b.body && true)))))))))))))
theorem entB_eq (a b : Entry) : entB a b = decide (a = b) := by
  rw [Bool.eq_iff_iff]
  simp only [entB, Bool.and_eq_true, beq_iff_eq, and_true, decide_eq_true_eq]
  constructor
  · rintro ⟨h1, h2, h3, h4, h5, h6, h7, h8, h9, h10, h11, h12, h13, h14⟩
    cases a; cases b; simp_all
  · rintro rfl; simp
abbrev EL (s : Nat) (b : Bool) (l : List Entry) : Ob := (s, .cells b (l.flatMap Entry.enc))
theorem el_len (l : List Entry) : (l.flatMap Entry.enc).length = l.length * 14 := rows_length (sz := 14) (fun _ => rfl) l
structure Rec where
  kind : Int
  e : Entry
  deriving Inhabited, DecidableEq
def Rec.enc (r : Rec) : List V := .int .i64 r.kind :: r.e.enc
def recB (a b : Rec) : Bool := a.kind == b.kind && entB a.e b.e
abbrev RL (s : Nat) (b : Bool) (l : List Rec) : Ob := (s, .cells b (l.flatMap Rec.enc))
end Go.Proofs.YtjgcgepfidcihaaGreatDoor
