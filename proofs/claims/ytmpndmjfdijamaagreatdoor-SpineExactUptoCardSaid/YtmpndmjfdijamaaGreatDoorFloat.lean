/- The order of floats' bits, as the order of whole numbers. -/
import Derived.Test.YtmpndmjfdijamaaGreatDoorDefs
set_option linter.unusedSimpArgs false
namespace Go.Proofs.YtmpndmjfdijamaaGreatDoor
open Go.RowKit Go.Sort
/-- A rung's magnitude, in units of the least place. -/
def fval (r : Nat) : Nat := if r < 4503599627370496 then r else (4503599627370496 + r % 4503599627370496) * 2 ^ (r / 4503599627370496 - 1)
theorem fval_mono {r s : Nat} (h : r < s) : fval r < fval s := by
  unfold fval
  have hq : r / 4503599627370496 ≤ s / 4503599627370496 := Nat.div_le_div_right (by omega)
  have hr := Nat.mod_lt r (show 0 < 4503599627370496 by decide)
  have hs := Nat.mod_lt s (show 0 < 4503599627370496 by decide)
  have er := Nat.div_add_mod r 4503599627370496
  have es := Nat.div_add_mod s 4503599627370496
  generalize r / 4503599627370496 = q at *
  generalize s / 4503599627370496 = p at *
  generalize r % 4503599627370496 = m at *
  generalize s % 4503599627370496 = n at *
  by_cases h1 : r < 4503599627370496
  · rw [if_pos h1]
    by_cases h2 : s < 4503599627370496
    · rw [if_pos h2]; exact h
    · rw [if_neg h2]
      have : (4503599627370496 + n) * 1 ≤ (4503599627370496 + n) * 2 ^ (p - 1) := Nat.mul_le_mul_left _ (Nat.one_le_two_pow)
      omega
  · rw [if_neg h1, if_neg (by omega)]
    rcases Nat.lt_or_eq_of_le hq with h3 | h3
    · have a1 : (4503599627370496 + m) * 2 ^ (q - 1) < (2 * 4503599627370496) * 2 ^ (q - 1) := Nat.mul_lt_mul_of_pos_right (by omega) (Nat.two_pow_pos _)
      have a2 : (2 * 4503599627370496) * 2 ^ (q - 1) = 4503599627370496 * 2 ^ q := by
        obtain ⟨t, rfl⟩ : ∃ t, q = t + 1 := ⟨q - 1, by omega⟩
        rw [Nat.add_sub_cancel, Nat.pow_succ]; omega
      have a3 : 4503599627370496 * 2 ^ q ≤ 4503599627370496 * 2 ^ (p - 1) := Nat.mul_le_mul_left _ (Nat.pow_le_pow_right (by decide) (by omega))
      have a4 : 4503599627370496 * 2 ^ (p - 1) ≤ (4503599627370496 + n) * 2 ^ (p - 1) := Nat.mul_le_mul_right _ (by omega)
      omega
    · subst h3
      exact Nat.mul_lt_mul_of_pos_right (by omega) (Nat.two_pow_pos _)
theorem fval_lt {r s : Nat} : fval r < fval s ↔ r < s := by
  refine ⟨fun h => ?_, fval_mono⟩
  rcases Nat.lt_trichotomy r s with h1 | h1 | h1
  · exact h1
  · subst h1; omega
  · have := fval_mono h1; omega
theorem fval_inj {r s : Nat} (h : fval r = fval s) : r = s := by
  rcases Nat.lt_trichotomy r s with h1 | h1 | h1
  · have := fval_mono h1; omega
  · exact h1
  · have := fval_mono h1; omega
def fneg (a : Nat) : Bool := a / 9223372036854775808 % 2 == 1
def frung (a : Nat) : Nat := a % 9223372036854775808
def sgn (s : Bool) (n : Nat) : Int := if s then -(n : Int) else (n : Int)
theorem sgn_mono {s t : Bool} {m n m' n' : Nat} (h1 : m < n ↔ m' < n') (h2 : n < m ↔ n' < m') (h3 : m = 0 ↔ m' = 0) (h4 : n = 0 ↔ n' = 0) : compare (sgn s m) (sgn t n) = compare (sgn s m') (sgn t n') := by
  have key : ∀ a b c d : Int, (a < b ↔ c < d) → (a = b ↔ c = d) → compare a b = compare c d := by
    intro a b c d e1 e2
    simp only [compare, compareOfLessAndEq, e1, e2]
  refine key _ _ _ _ ?_ ?_ <;> cases s <;> cases t <;> simp only [sgn, if_true, Bool.false_eq_true, if_false] <;> omega
theorem read_num {a : Nat} (h : frung a < 9218868437227405312) : ∃ m u, Ieee.double.read a = .number (fneg a) m (Ieee.double.leastPlace + (u : Nat)) ∧ m * 2 ^ u = fval (frung a) := by
  unfold Ieee.Format.read
  have e1 : Ieee.double.signWeight = 9223372036854775808 := by decide
  have e2 : Ieee.double.binade = 4503599627370496 := by decide
  have e3 : Ieee.double.infRung = 9218868437227405312 := by decide
  simp only [e1, e2, e3]
  show ∃ m u, (if frung a < 4503599627370496 then _ else _) = _ ∧ _
  by_cases h1 : frung a < 4503599627370496
  · rw [if_pos h1]
    exact ⟨frung a, 0, by simp [fneg, frung], by simp [fval, h1]⟩
  · rw [if_neg h1, if_pos (show a % 9223372036854775808 < 9218868437227405312 from h)]
    exact ⟨_, _, rfl, by unfold fval; rw [if_neg h1]; rfl⟩
theorem read_inf {a : Nat} (h : frung a = 9218868437227405312) : Ieee.double.read a = .infinity (fneg a) := by
  unfold Ieee.Format.read
  have e1 : Ieee.double.signWeight = 9223372036854775808 := by decide
  have e2 : Ieee.double.binade = 4503599627370496 := by decide
  have e3 : Ieee.double.infRung = 9218868437227405312 := by decide
  simp only [e1, e2, e3]
  rw [if_neg (by unfold frung at h; omega), if_neg (by unfold frung at h; omega), if_pos (by unfold frung at h; omega)]
  rfl
theorem read_nan {a : Nat} (h : 9218868437227405312 < frung a) : ∃ t, Ieee.double.read a = .nan (fneg a) t := by
  unfold Ieee.Format.read
  have e1 : Ieee.double.signWeight = 9223372036854775808 := by decide
  have e2 : Ieee.double.binade = 4503599627370496 := by decide
  have e3 : Ieee.double.infRung = 9218868437227405312 := by decide
  simp only [e1, e2, e3]
  rw [if_neg (by unfold frung at h; omega), if_neg (by unfold frung at h; omega), if_neg (by unfold frung at h; omega)]
  exact ⟨_, rfl⟩
theorem signed_sgn (s : Bool) (m u : Nat) : Ieee.signed s m u = sgn s (m * 2 ^ u) := by
  unfold Ieee.signed sgn
  rw [Nat.shiftLeft_eq]
/-- Of bits that are no NaN: the order of their rungs. -/
theorem ford_rung {a b : Nat} (ha : frung a ≤ 9218868437227405312) (hb : frung b ≤ 9218868437227405312) : ford a b = some (compare (sgn (fneg a) (frung a)) (sgn (fneg b) (frung b))) := by
  show (Ieee.double.read a).order (Ieee.double.read b) = _
  rcases Nat.lt_or_eq_of_le ha with ha | ha <;> rcases Nat.lt_or_eq_of_le hb with hb | hb
  · obtain ⟨m, u, h1, h2⟩ := read_num ha
    obtain ⟨n, v, h3, h4⟩ := read_num hb
    rw [h1, h3]
    simp only [Ieee.Datum.order, signed_sgn]
    have k1 : (Ieee.double.leastPlace + (u : Int) - min (Ieee.double.leastPlace + (u : Int)) (Ieee.double.leastPlace + (v : Int))).toNat = u - min u v := by omega
    have k2 : (Ieee.double.leastPlace + (v : Int) - min (Ieee.double.leastPlace + (u : Int)) (Ieee.double.leastPlace + (v : Int))).toNat = v - min u v := by omega
    rw [k1, k2]
    have hp := Nat.two_pow_pos (min u v)
    have e1 : m * 2 ^ (u - min u v) * 2 ^ min u v = fval (frung a) := by rw [Nat.mul_assoc, ← Nat.pow_add, Nat.sub_add_cancel (Nat.min_le_left _ _), h2]
    have e2 : n * 2 ^ (v - min u v) * 2 ^ min u v = fval (frung b) := by rw [Nat.mul_assoc, ← Nat.pow_add, Nat.sub_add_cancel (Nat.min_le_right _ _), h4]
    have z : ∀ r, fval r = 0 ↔ r = 0 := fun r => ⟨fun h => fval_inj (h.trans (by rfl)), fun h => by rw [h]; rfl⟩
    congr 1
    refine sgn_mono ?_ ?_ ?_ ?_
    · rw [← fval_lt (r := frung a), ← e1, ← e2]; exact (Nat.mul_lt_mul_right hp).symm
    · rw [← fval_lt (r := frung b), ← e1, ← e2]; exact (Nat.mul_lt_mul_right hp).symm
    · rw [← z (frung a), ← e1]; exact ⟨fun h => by rw [h, Nat.zero_mul], fun h => (Nat.mul_eq_zero.1 h).resolve_right (Nat.ne_of_gt hp)⟩
    · rw [← z (frung b), ← e2]; exact ⟨fun h => by rw [h, Nat.zero_mul], fun h => (Nat.mul_eq_zero.1 h).resolve_right (Nat.ne_of_gt hp)⟩
  · obtain ⟨m, u, h1, h2⟩ := read_num ha
    rw [h1, read_inf hb, hb]
    simp only [Ieee.Datum.order]
    congr 1
    cases fneg a <;> cases fneg b <;> simp only [sgn, compare, compareOfLessAndEq, if_true, Bool.false_eq_true, if_false]
    all_goals (first | (rw [if_pos (by omega)]) | (rw [if_neg (by omega), if_neg (by omega)]))
  · obtain ⟨m, u, h1, h2⟩ := read_num hb
    rw [h1, read_inf ha, ha]
    simp only [Ieee.Datum.order]
    congr 1
    cases fneg a <;> cases fneg b <;> simp only [sgn, compare, compareOfLessAndEq, if_true, Bool.false_eq_true, if_false]
    all_goals (first | (rw [if_pos (by omega)]) | (rw [if_neg (by omega), if_neg (by omega)]))
  · rw [read_inf ha, read_inf hb, ha, hb]
    simp only [Ieee.Datum.order]
    congr 1
    cases fneg a <;> cases fneg b <;> rfl
theorem fnan_rung (a : Nat) : fnan a = decide (9218868437227405312 < frung a) := by
  rcases Nat.lt_or_ge 9218868437227405312 (frung a) with h | h
  · obtain ⟨t, ht⟩ := read_nan h
    rw [decide_eq_true h]
    show ((Ieee.double.read a).order (Ieee.double.read a) != some Ordering.eq) = true
    rw [ht]; rfl
  · rw [decide_eq_false (by omega)]
    unfold fnan
    rw [ford_rung h h]
    simp [compare, compareOfLessAndEq]
/-- A float's place among all. -/
def fkey (a : Nat) : Int := if fnan a = true then 9223372036854775808 else sgn (fneg a) (frung a)
theorem fcmp_key (a b : Nat) : fcmp a b = icmp (fkey a) (fkey b) := by
  have hs : ∀ a, fnan a = false → frung a ≤ 9218868437227405312 ∧ sgn (fneg a) (frung a) < 9223372036854775808 := fun a h => by
    rw [fnan_rung] at h
    have := of_decide_eq_false h
    refine ⟨by omega, ?_⟩
    unfold sgn
    split <;> omega
  unfold fcmp fkey icmp
  cases ha : fnan a <;> cases hb : fnan b
  · obtain ⟨a1, a2⟩ := hs a ha
    obtain ⟨b1, b2⟩ := hs b hb
    simp only [Bool.false_eq_true, false_and, if_false]
    unfold fcmp0
    rw [ha, hb, ford_rung a1 b1]
    generalize sgn (fneg a) (frung a) = x
    generalize sgn (fneg b) (frung b) = y
    simp only [Bool.false_eq_true, if_false, compare, compareOfLessAndEq]
    by_cases h1 : x < y
    · simp [h1]
    · by_cases h2 : x = y
      · subst h2; simp
      · have : y < x := by omega
        simp [h1, h2, this]
  · obtain ⟨a1, a2⟩ := hs a ha
    simp
    omega
  · obtain ⟨b1, b2⟩ := hs b hb
    simp
    omega
  · simp
/-- Plain bits are told by their place. -/
theorem fkey_inj {a b : Int} (ha : u64 a) (hb : u64 b) (pa : vplain a = a) (pb : vplain b = b) (h : fkey a.toNat = fkey b.toNat) : a = b := by
  have key : ∀ c : Int, u64 c → vplain c = c → (fnan c.toNat = true ∧ c = 9221120237041090560) ∨ (fnan c.toNat = false ∧ c ≠ 9223372036854775808 ∧ frung c.toNat ≤ 9218868437227405312) := by
    intro c hc pc
    unfold vplain at pc
    cases hn : fnan c.toNat
    · rw [hn] at pc
      refine .inr ⟨rfl, ?_, ?_⟩
      · intro e
        rw [e] at pc
        simp at pc
      · rw [fnan_rung] at hn
        have := of_decide_eq_false hn
        omega
    · rw [hn, if_pos rfl] at pc
      exact .inl ⟨rfl, pc.symm⟩
  have hr : ∀ c : Nat, sgn (fneg c) (frung c) < 9223372036854775808 := fun c => by
    unfold sgn frung
    split <;> omega
  obtain ⟨a0, a1⟩ := ha
  obtain ⟨b0, b1⟩ := hb
  rcases key a ⟨a0, a1⟩ pa with ⟨h1, h2⟩ | ⟨h1, h2, h3⟩ <;> rcases key b ⟨b0, b1⟩ pb with ⟨h4, h5⟩ | ⟨h4, h5, h6⟩
  · omega
  · unfold fkey at h
    rw [h1, h4] at h
    have := hr b.toNat
    simp at h
    omega
  · unfold fkey at h
    rw [h1, h4] at h
    have := hr a.toNat
    simp at h
    omega
  · unfold fkey at h
    rw [h1, h4] at h
    simp only [Bool.false_eq_true, if_false] at h
    obtain ⟨m, rfl⟩ := Int.eq_ofNat_of_zero_le a0
    obtain ⟨n, rfl⟩ := Int.eq_ofNat_of_zero_le b0
    simp only [Int.toNat_natCast] at h
    clear h1 h3 h4 h6 pa pb key hr
    have e1 : fneg m = decide (9223372036854775808 ≤ m) := by
      unfold fneg
      by_cases hm : 9223372036854775808 ≤ m
      · rw [decide_eq_true hm, show m / 9223372036854775808 = 1 by omega]; rfl
      · rw [decide_eq_false hm, show m / 9223372036854775808 = 0 by omega]; rfl
    have e2 : fneg n = decide (9223372036854775808 ≤ n) := by
      unfold fneg
      by_cases hm : 9223372036854775808 ≤ n
      · rw [decide_eq_true hm, show n / 9223372036854775808 = 1 by omega]; rfl
      · rw [decide_eq_false hm, show n / 9223372036854775808 = 0 by omega]; rfl
    rw [e1, e2] at h
    unfold sgn frung at h
    by_cases g1 : 9223372036854775808 ≤ m <;> by_cases g2 : 9223372036854775808 ≤ n <;> simp only [g1, g2, decide_true, decide_false, if_true, Bool.false_eq_true, if_false] at h <;> omega
end Go.Proofs.YtmpndmjfdijamaaGreatDoor
