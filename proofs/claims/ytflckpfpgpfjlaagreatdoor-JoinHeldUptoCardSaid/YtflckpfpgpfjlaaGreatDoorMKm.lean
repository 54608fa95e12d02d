/- The walk of the law's pairs. The walk of the law's made. -/
import Derived.Test.YtflckpfpgpfjlaaGreatDoorMKb
import Derived.Test.YtflckpfpgpfjlaaGreatDoorMOpn
import Derived.Test.YtflckpfpgpfjlaaGreatDoorMJsr
import Derived.Test.YtflckpfpgpfjlaaGreatDoorMJsp
set_option linter.unusedVariables false
set_option linter.unusedSimpArgs false
section
namespace Go.Proofs.YtflckpfpgpfjlaaGreatDoor
open Go.RowKit Go.Sort
def rowP (lc rc : List Int) (x : GE) (l : List GE) : List GE := (l.filter fun y => meetK lc rc x.row y.row).map fun y => ⟨x.row ++ y.row, x.w * y.w⟩
section
variable {lc rc : List Int} {a b : List GE}
theorem pairs_snoc {i : Nat} {x : GE} (hx : a[i]? = some x) : pairsL lc rc (a.take (i + 1)) b = pairsL lc rc (a.take i) b ++ rowP lc rc x b := by
  unfold pairsL
  rw [flat_take a _ hx]
  rfl
theorem rowP_yes {x y : GE} {k : Nat} (hy : b[k]? = some y) (h : meetK lc rc x.row y.row = true) : rowP lc rc x (b.take (k + 1)) = rowP lc rc x (b.take k) ++ [⟨x.row ++ y.row, x.w * y.w⟩] := by
  unfold rowP
  rw [List.take_add_one, hy, List.filter_append, List.map_append]
  simp [h]
theorem rowP_no {x y : GE} {k : Nat} (hy : b[k]? = some y) (h : meetK lc rc x.row y.row = false) : rowP lc rc x (b.take (k + 1)) = rowP lc rc x (b.take k) := by
  unfold rowP
  rw [List.take_add_one, hy, List.filter_append, List.map_append]
  simp [h]
theorem rowP_len (x : GE) (l : List GE) : (rowP lc rc x l).length ≤ l.length := by
  unfold rowP
  rw [List.length_map]
  exact List.length_filter_le _ _
theorem small_step {i : Nat} {x : GE} (hx : a[i]? = some x) (h : Small lc rc (a.take i) b) (h2 : ∀ y ∈ b, meetK lc rc x.row y.row = true → x.w * y.w ≤ 1099511627776) : Small lc rc (a.take (i + 1)) b := fun u hu y hy hm => by
  rw [List.take_add_one, hx] at hu
  rcases List.mem_append.1 hu with hu | hu
  · exact h u hu y hy hm
  · simp at hu
    subst hu
    exact h2 y hy hm
end
end Go.Proofs.YtflckpfpgpfjlaaGreatDoor
end
section
namespace Go.Proofs.YtflckpfpgpfjlaaGreatDoor
open Go.RowKit Go.Sort
theorem plan_one {w : World} {d : Nat} {cs : List Value} (h : NodeC w (PlanAt w d) cs) : PlanAt (w.alloc (.cells cs.toArray 28)) (d + 1) (.slice (some ⟨w.heap.size, 0, none⟩) 1 1) := by
  have hE : Ext w (w.alloc (.cells cs.toArray 28)) := Ext.alloc (Ext.refl w) _
  have h2 := h.ext hE.below fun _ => PlanAt.ext hE.below
  refine ⟨[cs], _, 1, rfl, Nat.le_refl _, by simp, fun _ => ⟨w.heap.size, 0, cs.toArray, 28, (0, 0), rfl, Okf.any _ _ _, heap_alloc_new w _, fun j x hj => ?_⟩⟩
  obtain rfl : j = 0 := by have := (List.getElem?_eq_some_iff.1 hj).1; simpa using this
  simp only [List.getElem?_cons_zero, Option.some.injEq] at hj
  subst hj
  have h3 := h
  obtain ⟨op, a, b, n, name, anti, A1, A2, A3, A4, A5, A6, A7, c1, c2, c3, c4, l5, c5, l6, c6, c7, cols, others, kids, es, ps, rfl, _⟩ := h3
  exact ⟨_, rfl, ⟨rfl, h2⟩, by simp [Value.oneCell'], fun i u hu => by simpa using hu⟩
end Go.Proofs.YtflckpfpgpfjlaaGreatDoor
end
