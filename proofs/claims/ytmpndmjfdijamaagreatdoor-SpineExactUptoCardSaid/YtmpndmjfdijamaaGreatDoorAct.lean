/- The acts of the laws of spines, as they lie in memory. -/
import Derived.Test.YtmpndmjfdijamaaGreatDoorTold
set_option linter.unusedSimpArgs false
namespace Go.Proofs.YtmpndmjfdijamaaGreatDoor
open Go.RowKit Go.Sort
/-- freshetlaw04.Act -/
structure GA where
  delta : List GE
  pack : Bool
def EAct (w : World) (ok : Blk) (x : GA) (cs : List Value) : Prop := ∃ v, cs = [v, .bool x.pack] ∧ RdZ w ok v x.delta
abbrev RdA (w : World) (ok : Blk) (v : Value) (z : List GA) : Prop := RdL 2 (EAct w ok) w ok v z
theorem RdA.ext {w w' : World} {ok : Blk} {v : Value} {z : List GA} (h : RdA w ok v z) (hb : Below w.heap.size w w') : RdA w' ok v z :=
  RdL.move h (fun _ _ ⟨v, h1, h2⟩ => ⟨v, h1, h2.ext hb⟩) (Stays.below hb ok)
theorem RdA.act {w : World} {ok : Blk} {v : Value} {z : List GA} (h : RdA w ok v z) {j : Nat} {x : GA} (hj : z[j]? = some x) : ∃ b o c A d, v = .slice (some ⟨b, o, none⟩) z.length c ∧ b < w.heap.size ∧
    RdZ w ok (.slice A x.delta.length d) x.delta ∧ w.cell? ⟨b, o + j * 2, none⟩ = some (.slice A x.delta.length d) ∧ w.cell? ⟨b, o + j * 2 + 1, none⟩ = some (.bool x.pack) := by
  obtain ⟨b, o, c, hv, hb, cs, _, ⟨u, rfl, hr⟩, _, hc⟩ := h.at hj
  obtain ⟨A, d, rfl, _⟩ := hr.shape
  exact ⟨b, o, c, A, d, hv, hb, hr, hc 0 _ rfl, hc 1 _ rfl⟩
end Go.Proofs.YtmpndmjfdijamaaGreatDoor
