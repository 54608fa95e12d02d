/- The walk of the law's meets. The walk of the law's bag. -/
import Derived.Test.YtflckpfpgpfjlaaGreatDoorMJa
import Derived.Test.YtflckpfpgpfjlaaGreatDoorMJe
import Derived.BigQuiet
import Derived.Test.YtflckpfpgpfjlaaGreatDoorMZadd
set_option linter.unusedVariables false
set_option linter.unusedSimpArgs false
section
namespace Go.Proofs.YtflckpfpgpfjlaaGreatDoor
open Go.RowKit Go.Sort
theorem meetK_pick {lc rc : List Int} {p q kp kq : List GV} (hp : pick p lc = some kp) (hq : pick q rc = some kq) : meetK lc rc p q = sameR kp kq := by
  unfold meetK keyOf
  rw [hp, hq]; rfl
theorem pick_pickL {r k : List GV} {cols : List Int} (h : pick r cols = some k) : pickL r cols = some k := by
  unfold pick at h
  split at h
  · exact h
  · cases h
attribute [local go_sem ↓] eqVal neVal
end Go.Proofs.YtflckpfpgpfjlaaGreatDoor
end
section
namespace Go.Proofs.YtflckpfpgpfjlaaGreatDoor
open Go.RowKit Go.Sort
theorem take_all {α : Type} {l : List α} {P : α → Prop} {k : Nat} {x : α} (h : ∀ y ∈ l.take k, P y) (hx : l[k]? = some x) (hp : P x) : ∀ y ∈ l.take (k + 1), P y := fun y hy => by
  rw [List.take_add_one, hx] at hy
  rcases List.mem_append.1 hy with hy | hy
  · exact h y hy
  · simp at hy
    rw [hy]; exact hp
end Go.Proofs.YtflckpfpgpfjlaaGreatDoor
end
