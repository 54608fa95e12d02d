/- The walk of JoinPairs. -/
import Derived.Test.YtflckpfpgpfjlaaGreatDoorMJt
import Derived.Test.YtflckpfpgpfjlaaGreatDoorMKm
import Derived.Test.YtflckpfpgpfjlaaGreatDoorMOpn
set_option linter.unusedVariables false
set_option linter.unusedSimpArgs false
namespace Go.Proofs.YtflckpfpgpfjlaaGreatDoor
open Go.RowKit Go.Sort
theorem JMut.low {R : Nat → Prop} {w w' : World} {n : Nat} (h : JMut R w w') (hr : ∀ k, R k → n ≤ k) (hn : n ≤ w.heap.size) : Below n w w' :=
  ⟨h.os, h.tape, h.output, h.size, fun k hk => by
    have hlt : k < w.heap.size := by omega
    rw [h.block k _ (Array.getElem?_eq_getElem hlt) (.inl fun hq => by have := hr k hq; omega), Array.getElem?_eq_getElem hlt]⟩
theorem RdZ2.jmut {R : Nat → Prop} {w w' : World} {lo : Nat} {v : Value} {z : List GE} (h : RdZ2 w lo v z) (hm : JMut R w w') : RdZ2 w' lo v z := by
  have hok : ∀ T : TypeId, T ≠ 133 → T ≠ 136 → T ≠ 74 → ∀ k t, Fresh lo [T] k t → t ≠ 133 ∧ t ≠ 136 ∧ t ≠ 74 ∧ Fresh lo [T] k t := fun T a b c k t h => by
    have e : t = T := by have := h.2; simpa using this
    exact ⟨e ▸ a, e ▸ b, e ▸ c, h⟩
  exact RdL.move h (fun _ _ e => e.mv (hm.stays (hok _ (by decide) (by decide) (by decide)))) (hm.stays (hok _ (by decide) (by decide) (by decide)))
theorem AddPost.ok {a b : List GE} {w w' : World} {e : Ending} (h : AddPost a b w e w') (ha : zsound a = true) (hb : zsound b = true) (ho : overL (a ++ b) = false) : ∃ (A : Option Addr) (c : Nat) (y : List GE), e = .returned (.tuple #[.slice A y.length c, .int .i64 0]) ∧ Made (a ++ b) y ∧ RdZ2 w' w.heap.size (.slice A y.length c) y ∧ Below w.heap.size w w' := by
  obtain ⟨hB, h⟩ := h
  rw [if_neg (by rw [ha, hb]; simp), if_neg (by rw [ho]; simp)] at h
  obtain ⟨v, y, he, hm, hr, _⟩ := h
  obtain ⟨A, c, rfl, _⟩ := hr.shape
  exact ⟨A, c, y, he, hm, hr, hB⟩
theorem pairsL_len (lc rc : List Int) (a b : List GE) : (pairsL lc rc a b).length ≤ a.length * b.length := flat_len a (fun x => rowP lc rc x b) b.length fun x _ => rowP_len x b
end Go.Proofs.YtflckpfpgpfjlaaGreatDoor
