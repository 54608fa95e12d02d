/- What the functions of the packages val, row and zset compute, as plain Lean functions; no law of them is here. -/
import Derived.Test.YtmpndmjfdijamaaGreatDoorBase
import Derived.Lib.Bytealg
set_option linter.unusedVariables false
set_option linter.unusedSimpArgs false
namespace Go.Proofs.YtmpndmjfdijamaaGreatDoor
open Go.RowKit Go.Sort
def ford (a b : Nat) : Option Ordering := FloatKind.f64.format.order a b
def fnan (a : Nat) : Bool := ford a a != some Ordering.eq
def vplain (f : Int) : Int := if fnan f.toNat = true then 9221120237041090560 else if (f == 9223372036854775808) = true then 0 else f
/-- '==' of two values, field by field. -/
def eqGV (k n f : Int) (t : ByteArray) (k' n' f' : Int) (t' : ByteArray) : Bool := k == k' && (n == n' && (f == f' && (t.toList == t'.toList && true)))
def GV.eqv (x y : GV) : Bool := eqGV x.k x.n x.f x.t y.k y.n y.f y.t
def vsound (x : GV) : Bool :=
  if (x.k == 0) = true then eqGV x.k x.n x.f x.t 0 0 0 ⟨#[]⟩
  else if (x.k == 1) = true then eqGV x.k x.n x.f x.t 1 (bits BinOp.and .i64 x.n 1) 0 ⟨#[]⟩
  else if (x.k == 2) = true then eqGV x.k x.n x.f x.t 2 x.n 0 ⟨#[]⟩
  else if (x.k == 3) = true then eqGV x.k x.n x.f x.t 3 0 (vplain x.f) ⟨#[]⟩
  else if (x.k == 4) = true then eqGV x.k x.n x.f x.t 4 0 0 x.t && decide ((x.t.size : Int) ≤ 4096)
  else false
def icmp (a b : Int) : Int := if a < b then -1 else if b < a then 1 else 0
/-- cmp.Compare at float64, of bits. -/
def fcmp0 (a b : Nat) : Int :=
  if fnan a = true then (if fnan b = true then 0 else -1)
  else if fnan b = true then 1
  else if (ford a b == some Ordering.lt) = true then -1
  else if (ford a b == some Ordering.gt) = true then 1
  else 0
/-- val.compareFloats -/
def fcmp (a b : Nat) : Int :=
  if fnan a = true ∧ fnan b = true then 0
  else if fnan a = true then 1
  else if fnan b = true then -1
  else fcmp0 a b
def scmp (a b : ByteArray) : Int := Lib.compareBytes a.data.toList b.data.toList
/-- val.Compare -/
def vcmp (a b : GV) : Int :=
  if vsound a = false ∨ vsound b = false then 0
  else if a.k ≠ b.k then icmp a.k b.k
  else if a.k = 3 then fcmp a.f.toNat b.f.toNat
  else if a.k = 4 then scmp a.t b.t
  else icmp a.n b.n
def rsound (r : List GV) : Bool := decide (r.length ≤ 1024) && !(r.any fun x => !vsound x)
/-- slices.CompareFunc at values. -/
def rcmp0 : List GV → List GV → Int
  | [], [] => 0
  | [], _ :: _ => -1
  | _ :: _, [] => 1
  | a :: r, b :: s => if vcmp a b ≠ 0 then vcmp a b else rcmp0 r s
/-- row.Compare -/
def rcmp (r s : List GV) : Int := if rsound r = false ∨ rsound s = false then 0 else rcmp0 r s
/-- zset.isFair -/
def fair (w : Int) : Bool := decide (-4611686018427387904 ≤ w) && decide (w ≤ 4611686018427387904)
/-- An entry that may stand behind p. -/
def entOk (p : Option GE) (x : GE) : Bool := !(x.w == 0) && fair x.w && rsound x.row && (match p with | none => true | some y => decide (rcmp y.row x.row < 0))
def zsound0 (p : Option GE) : List GE → Bool
  | [] => true
  | x :: z => entOk p x && zsound0 (some x) z
/-- zset.Sound -/
def zsound (z : List GE) : Bool := zsound0 none z
end Go.Proofs.YtmpndmjfdijamaaGreatDoor
