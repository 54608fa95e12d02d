/- Lists of changes, as they lie in memory; a spine that takes them one by one. -/
import Derived.Test.YtmpndmjfdijamaaGreatDoorTold
set_option linter.unusedVariables false
set_option linter.unusedSimpArgs false
namespace Go.Proofs.YtmpndmjfdijamaaGreatDoor
open Go.RowKit Go.Sort
/-- A list of multisets. -/
def EZ (w : World) (ok : Blk) (d : List GE) (cs : List Value) : Prop := ∃ v, cs = [v] ∧ RdZ w ok v d
abbrev RdD (w : World) (ok : Blk) (v : Value) (ds : List (List GE)) : Prop := RdL 1 (EZ w ok) w ok v ds
theorem RdD.ext {w w' : World} {ok : Blk} {v : Value} {z : List (List GE)} (h : RdD w ok v z) (hb : Below w.heap.size w w') : RdD w' ok v z :=
  RdL.move h (fun _ _ ⟨v, h1, h2⟩ => ⟨v, h1, h2.ext hb⟩) (Stays.below hb ok)
theorem RdD.delta {w : World} {ok : Blk} {v : Value} {z : List (List GE)} (h : RdD w ok v z) {j : Nat} {x : List GE} (hj : z[j]? = some x) : ∃ b o c A d, v = .slice (some ⟨b, o, none⟩) z.length c ∧ b < w.heap.size ∧
    RdZ w ok (.slice A x.length d) x ∧ w.cell? ⟨b, o + j, none⟩ = some (.slice A x.length d) := by
  obtain ⟨b, o, c, hv, hb, cs, _, ⟨u, rfl, hr⟩, _, hc⟩ := h.at hj
  obtain ⟨A, d, rfl, _⟩ := hr.shape
  exact ⟨b, o, c, A, d, hv, hb, hr, by simpa using hc 0 _ rfl⟩
/-- What a spine is after i changes. -/
def RoundT (base b : Nat) (w wr : World) (cols : List Int) (i : Nat) : Prop := ∃ S z, SpAt base b wr S ∧ Inv S ∧ Told S z ∧ FairZ z ∧ S.cols = cols ∧ heldL S.bs ≤ i * 100 ∧ S.live ≤ i * 100 ∧ Below w.heap.size w wr
end Go.Proofs.YtmpndmjfdijamaaGreatDoor
