/- strings.ReplaceAll of a zero byte by two bytes, as a plain function. -/
import Derived.Test.YtmpndmjfdijamaaGreatDoorBuild
import Derived.Lib.SplitLaws
set_option linter.unusedSimpArgs false
namespace Go.Proofs.YtmpndmjfdijamaaGreatDoor
open Go.RowKit Go.Sort
def esc : List UInt8 → List UInt8
  | [] => []
  | b :: l => if b = 0 then 0 :: 255 :: esc l else b :: esc l
theorem index_zero (l : List UInt8) : Lib.index (0 :: l) [0] = ((0 : Nat) : Int) := by simp [Lib.index, List.isPrefixOf]
theorem index_other {b : UInt8} (l : List UInt8) (h : b ≠ 0) {i : Nat} (hi : Lib.index l [0] = i) : Lib.index (b :: l) [0] = ((i + 1 : Nat) : Int) := by
  have h1 : ¬ (0 = b) := fun e => h e.symm
  have h2 : ¬ ((i : Int) == -1) = true := fun e => by have := beq_iff_eq.1 e; omega
  unfold Lib.index
  rw [if_neg (by simp [List.isPrefixOf, h1]), hi, if_neg h2]
  push_cast; rfl
theorem replaceK_esc : ∀ l : List UInt8, Lib.replaceK [0] [0, 255] (Lib.count l [0]) l = esc l
  | [] => by rw [Lib.count_one]; rfl
  | b :: l => by
    have ih := replaceK_esc l
    by_cases h : b = 0
    · subst h
      rw [Lib.count_cons_eq, Nat.add_comm, Lib.replaceK_hit _ _ _ _ 0 (index_zero l)]
      simp [esc, ih]
    · rw [Lib.count_cons_ne _ _ _ h]
      simp only [esc, if_neg h]
      rw [← ih]
      rcases hc : Lib.count l [0] with _ | k
      · rfl
      · obtain ⟨i, hi⟩ := Lib.index_of_count (s := l) (old := [0]) (by omega)
        rw [Lib.replaceK_hit _ _ _ _ _ hi, Lib.replaceK_hit _ _ _ _ _ (index_other l h hi)]
        simp [Nat.add_right_comm]
theorem replaceAll_esc (l : List UInt8) : Lib.replaceAll l [0] [0, 255] = esc l := by
  have h : Lib.replaceAll l [0] [0, 255] = Lib.replaceK [0] [0, 255] (Lib.count l [0]) l := by
    simp [Lib.replaceAll, Lib.replace, Lib.replaceNum]
  rw [h, replaceK_esc]
theorem esc_len (l : List UInt8) : (esc l).length ≤ 2 * l.length := by
  induction l with
  | nil => simp [esc]
  | cons b l ih =>
    unfold esc
    split <;> simp only [List.length_cons] <;> omega
/-- Behind an escaped text and two zeros: the text and the rest are told. -/
theorem esc_inj : ∀ {l m : List UInt8} {r s : List UInt8}, esc l ++ 0 :: 0 :: r = esc m ++ 0 :: 0 :: s → l = m ∧ r = s
  | [], [], r, s, h => by simp [esc] at h; exact ⟨rfl, h⟩
  | [], c :: m, r, s, h => by
    by_cases hc : c = 0
    · subst hc; simp [esc] at h
    · simp only [esc, if_neg hc, List.nil_append, List.cons_append, List.cons.injEq] at h
      exact absurd h.1.symm hc
  | b :: l, [], r, s, h => by
    by_cases hc : b = 0
    · subst hc; simp [esc] at h
    · simp only [esc, if_neg hc, List.nil_append, List.cons_append, List.cons.injEq] at h
      exact absurd h.1 hc
  | b :: l, c :: m, r, s, h => by
    by_cases hb : b = 0 <;> by_cases hc : c = 0
    · subst hb hc
      simp only [esc, if_pos, List.cons_append, List.cons.injEq, true_and] at h
      obtain ⟨h1, h2⟩ := esc_inj h
      exact ⟨by rw [h1], h2⟩
    · subst hb
      simp only [esc, if_pos, if_neg hc, List.cons_append, List.cons.injEq] at h
      exact absurd h.1.symm hc
    · subst hc
      simp only [esc, if_pos, if_neg hb, List.cons_append, List.cons.injEq] at h
      exact absurd h.1 hb
    · simp only [esc, if_neg hb, if_neg hc, List.cons_append, List.cons.injEq] at h
      obtain ⟨h1, h2⟩ := esc_inj h.2
      exact ⟨by rw [h.1, h1], h2⟩
end Go.Proofs.YtmpndmjfdijamaaGreatDoor
