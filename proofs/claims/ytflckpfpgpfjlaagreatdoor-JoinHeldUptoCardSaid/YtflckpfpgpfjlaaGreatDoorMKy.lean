/- The walk of the join law's spoil: a list of entries written over; and what that leaves as it was. The walk of the law's turned. A join and the join turned round, step by step. The walk of the law's copied. JoinAlone, step by step. -/
import Derived.Test.YtflckpfpgpfjlaaGreatDoorMBase
import Derived.Test.YtflckpfpgpfjlaaGreatDoorMKb
import Derived.Test.YtflckpfpgpfjlaaGreatDoorMJsr
import Derived.Test.YtflckpfpgpfjlaaGreatDoorMKl
import Derived.Test.YtflckpfpgpfjlaaGreatDoorMKx
set_option linter.unusedVariables false
set_option linter.unusedSimpArgs false
section
namespace Go.Proofs.YtflckpfpgpfjlaaGreatDoor
open Go.RowKit Go.Sort
structure Wrote (P : Nat → Prop) (w w' : World) : Prop where
  os : w'.os = w.os
  tape : w'.tape = w.tape
  output : w'.output = w.output
  size : w.heap.size ≤ w'.heap.size
  block : ∀ k, k < w.heap.size → ¬ P k → w'.heap[k]? = w.heap[k]?
section
variable {P Q : Nat → Prop} {w w' w'' : World}
theorem Wrote.trans (h : Wrote P w w') (k : Wrote P w' w'') : Wrote P w w'' :=
  ⟨k.os.trans h.os, k.tape.trans h.tape, k.output.trans h.output, Nat.le_trans h.size k.size, fun i hi hp => (k.block i (Nat.lt_of_lt_of_le hi h.size) hp).trans (h.block i hi hp)⟩
theorem Wrote.of (h : Below w.heap.size w w') : Wrote P w w' := ⟨h.os, h.tape, h.output, h.size, fun k hk _ => h.block k hk⟩
theorem Wrote.below (h : Wrote P w w') {B : Nat} (hp : ∀ k, P k → B ≤ k) (hB : B ≤ w.heap.size) : Below B w w' := ⟨h.os, h.tape, h.output, h.size, fun k hk => h.block k (by omega) fun h => by have := hp k h; omega⟩
theorem Wrote.set (h : Wrote P w w') {p : Addr} (hp : P p.block) (u : Value) : Wrote P w (w'.setCell p u) :=
  ⟨h.os, h.tape, h.output, by simpa using h.size, fun k hk hn => by rw [heap_setCell_other _ _ _ _ (fun e => hn (by rw [e]; exact hp))]; exact h.block k hk hn⟩
end
end Go.Proofs.YtflckpfpgpfjlaaGreatDoor
end
section
namespace Go.Proofs.YtflckpfpgpfjlaaGreatDoor
open Go.RowKit Go.Sort
end Go.Proofs.YtflckpfpgpfjlaaGreatDoor
end
section
namespace Go.Proofs.YtflckpfpgpfjlaaGreatDoor
open Go.RowKit Go.Sort
section
variable {n b bl br d dl dr nl nr : Nat} {w w' : World} {lc rc : List Int} {a z da dz a2 z2 : List GE}
def Two (n b bl br d dl dr : Nat) (w : World) (lc rc : List Int) (nl nr : Nat) (a z : List GE) : Prop := ∃ R1 R2 : Nat → Prop, (∀ k, R1 k → n ≤ k) ∧ (∀ k, R2 k → n ≤ k) ∧ (∀ k, R1 k → ¬ R2 k) ∧
  ((JSt R1 b bl br w lc rc nl nr 0 a z ∧ JSt R2 d dl dr w rc lc nr nl 0 z a ∧ Small lc rc a z) ∨ (∃ a' z', a'.length ≤ 1640 ∧ z'.length ≤ 1640 ∧ JSt R1 b bl br w lc rc nl nr 14 a' z' ∧ JSt R2 d dl dr w rc lc nr nl 14 z' a'))
end
end Go.Proofs.YtflckpfpgpfjlaaGreatDoor
end
section
namespace Go.Proofs.YtflckpfpgpfjlaaGreatDoor
open Go.RowKit Go.Sort
end Go.Proofs.YtflckpfpgpfjlaaGreatDoor
end
section
namespace Go.Proofs.YtflckpfpgpfjlaaGreatDoor
open Go.RowKit Go.Sort
section
variable {n b bl br d dl dr nl nr : Nat} {F : Nat → Prop} {w w' : World} {lc rc : List Int} {a1 z1 a2 z2 da dz : List GE} {q1 q2 : Int}
end
section
variable {n b bl br d dl dr nl nr : Nat} {F : Nat → Prop} {w w' : World} {lc rc : List Int} {a2 z2 st c1 c2 : List GE} {q2 : Int}
end
end Go.Proofs.YtflckpfpgpfjlaaGreatDoor
end
