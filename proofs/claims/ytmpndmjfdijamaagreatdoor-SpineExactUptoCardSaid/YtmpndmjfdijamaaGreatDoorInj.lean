/- Sound rows are told by their bytes. -/
import Derived.Test.YtmpndmjfdijamaaGreatDoorSame
set_option linter.unusedSimpArgs false
namespace Go.Proofs.YtmpndmjfdijamaaGreatDoor
open Go.RowKit Go.Sort
theorem wordL_inj {n m : Int} (hn : 0 ≤ n ∧ n < 18446744073709551616) (hm : 0 ≤ m ∧ m < 18446744073709551616) (h : wordL n = wordL m) : n = m := by
  have key : ∀ k, wbyte n k = wbyte m k → n / 2 ^ (56 - 8 * k) % 256 = m / 2 ^ (56 - 8 * k) % 256 := fun k h => by rw [← wbyte_int, ← wbyte_int, h]
  simp only [wordL, List.cons.injEq, and_true] at h
  obtain ⟨h0, h1, h2, h3, h4, h5, h6, h7⟩ := h
  have a0 := key 0 h0
  have a1 := key 1 h1
  have a2 := key 2 h2
  have a3 := key 3 h3
  have a4 := key 4 h4
  have a5 := key 5 h5
  have a6 := key 6 h6
  have a7 := key 7 h7
  simp only [Nat.mul_zero, Nat.sub_zero, Nat.mul_one, Nat.reduceMul, Nat.reduceSub, Int.reducePow, Int.pow_zero, Int.ediv_one] at a0 a1 a2 a3 a4 a5 a6 a7
  clear key h0 h1 h2 h3 h4 h5 h6 h7
  omega
theorem xor_cancel {a b c : Nat} (h : a ^^^ c = b ^^^ c) : a = b := by
  have := congrArg (· ^^^ c) h
  simpa [Nat.xor_assoc] using this
theorem bit63 (i : Nat) : (9223372036854775808 : Nat).testBit i = decide (63 = i) := by
  rw [show (9223372036854775808 : Nat) = 2 ^ 63 by decide, Nat.testBit_two_pow]
theorem nflip_inj {n m : Int} (hn : i64 n) (hm : i64 m) (h : nflip n = nflip m) : n = m := by
  rw [nflip_nat, nflip_nat] at h
  have h := xor_cancel (Int.ofNat.inj h)
  unfold i64 at hn hm
  omega
theorem and_bit (a : Nat) : a &&& 9223372036854775808 ≠ 0 ↔ a.testBit 63 = true := by
  refine ⟨fun h => ?_, fun h h0 => ?_⟩
  · cases hh : a.testBit 63
    · refine absurd (Nat.eq_of_testBit_eq fun i => ?_) h
      rw [Nat.testBit_and, bit63, Nat.zero_testBit]
      by_cases hi : 63 = i
      · subst hi; simp [hh]
      · simp [hi]
    · rfl
  · have := congrArg (Nat.testBit · 63) h0
    simp only [Nat.testBit_and, bit63, h, Nat.zero_testBit] at this
    simp at this
theorem fturned_inj {f g : Int} (hf : u64 f) (hg : u64 g) (h : fturned f = fturned g) : f = g := by
  rw [fturned_nat hf, fturned_nat hg] at h
  have h := Int.ofNat.inj h
  obtain ⟨f0, f1⟩ := hf
  obtain ⟨g0, g1⟩ := hg
  obtain ⟨a, rfl⟩ := Int.eq_ofNat_of_zero_le f0
  obtain ⟨b, rfl⟩ := Int.eq_ofNat_of_zero_le g0
  simp only [Int.toNat_natCast] at h
  have c1 : ∀ i, (9223372036854775808 : Nat).testBit i = decide (63 = i) := fun i => by
    rw [show (9223372036854775808 : Nat) = 2 ^ 63 by decide, Nat.testBit_two_pow]
  have c2 : (18446744073709551615 : Nat).testBit 63 = true := by decide
  by_cases ha : a &&& 9223372036854775808 ≠ 0 <;> by_cases hb : b &&& 9223372036854775808 ≠ 0
  · rw [if_pos ha, if_pos hb] at h
    rw [Nat.xor_comm _ a, Nat.xor_comm _ b] at h
    rw [xor_cancel h]
  · rw [if_pos ha, if_neg hb] at h
    have := congrArg (Nat.testBit · 63) h
    simp only [Nat.testBit_xor, Nat.testBit_or, c2, c1, (and_bit a).1 ha] at this
    simp at this
  · rw [if_neg ha, if_pos hb] at h
    have := congrArg (Nat.testBit · 63) h
    simp only [Nat.testBit_xor, Nat.testBit_or, c2, c1, (and_bit b).1 hb] at this
    simp at this
  · rw [if_neg ha, if_neg hb] at h
    have ha' : a.testBit 63 = false := by
      cases hh : a.testBit 63
      · rfl
      · exact absurd ((and_bit a).2 hh) ha
    have hb' : b.testBit 63 = false := by
      cases hh : b.testBit 63
      · rfl
      · exact absurd ((and_bit b).2 hh) hb
    congr 1
    apply Nat.eq_of_testBit_eq
    intro i
    by_cases hi : 63 = i
    · subst hi; rw [ha', hb']
    · have := congrArg (Nat.testBit · i) h
      simpa only [Nat.testBit_or, c1, hi, decide_false, Bool.or_false] using this
theorem vsound_n {x : GV} (h : vsound x = true) (hk : x.k = 0) : x.n = 0 := by
  unfold vsound eqGV at h
  simp only [hk] at h
  simp at h
  exact h.1
theorem kbyte_inj {a b : Int} (ha : 0 ≤ a ∧ a < 256) (hb : 0 ≤ b ∧ b < 256) (h : kbyte a = kbyte b) : a = b := by
  rw [← kbyte_int ha.1 ha.2, ← kbyte_int hb.1 hb.2, h]
theorem app8 {n m : Int} {R S : List UInt8} (h : wordL n ++ R = wordL m ++ S) : wordL n = wordL m ∧ R = S := List.append_inj h rfl
theorem encV_inj {x y : GV} (ox : x.Ok) (oy : y.Ok) (hx : vsound x = true) (hy : vsound y = true) {R S : List UInt8} (h : encV x ++ R = encV y ++ S) : x = y ∧ R = S := by
  obtain ⟨x1, x2, x3, x4⟩ := vsound_parts hx
  obtain ⟨y1, y2, y3, y4⟩ := vsound_parts hy
  have kx := vsound_kind hx
  have ky := vsound_kind hy
  have nx := vsound_n hx
  have ny := vsound_n hy
  unfold encV at h
  rw [List.cons_append, List.cons_append, List.cons.injEq] at h
  obtain ⟨hk, h⟩ := h
  have hk := kbyte_inj (by omega) (by omega) hk
  obtain ⟨a, b, c, d⟩ := x
  obtain ⟨a', b', c', d'⟩ := y
  simp only at *
  subst hk
  rcases kx with rfl | rfl | rfl | rfl | ⟨rfl, _⟩
  · simp at h
    rw [nx rfl, ny rfl, x2 (by decide), y2 (by decide), x3 (by decide), y3 (by decide)]
    exact ⟨rfl, h⟩
  · simp only [true_or, if_true] at h
    obtain ⟨h1, h2⟩ := app8 h
    have e := nflip_inj (n := b) (m := b') ox.n oy.n (wordL_inj (nflip_range b) (nflip_range b') h1)
    rw [e, x2 (by decide), y2 (by decide), x3 (by decide), y3 (by decide)]
    exact ⟨rfl, h2⟩
  · simp only [or_true, if_true] at h
    obtain ⟨h1, h2⟩ := app8 h
    have e := nflip_inj (n := b) (m := b') ox.n oy.n (wordL_inj (nflip_range b) (nflip_range b') h1)
    rw [e, x2 (by decide), y2 (by decide), x3 (by decide), y3 (by decide)]
    exact ⟨rfl, h2⟩
  · rw [if_neg (by decide), if_pos rfl] at h
    rw [if_neg (by decide), if_pos rfl] at h
    obtain ⟨h1, h2⟩ := app8 h
    have e := fturned_inj (f := c) (g := c') ox.f oy.f (wordL_inj (fturned_range ox.f) (fturned_range oy.f) h1)
    rw [e, x3 (by decide), y3 (by decide), x4 (.inl rfl), y4 (.inl rfl)]
    exact ⟨rfl, h2⟩
  · rw [if_neg (by decide), if_neg (by decide), if_pos rfl] at h
    rw [if_neg (by decide), if_neg (by decide), if_pos rfl] at h
    rw [List.append_assoc, List.append_assoc] at h
    obtain ⟨h1, h2⟩ := esc_inj h
    have hd : d = d' := by
      cases d with
      | mk u => cases d' with
        | mk u' => exact congrArg ByteArray.mk (Array.toList_inj.1 h1)
    rw [hd, x4 (.inr rfl), y4 (.inr rfl), x2 (by decide), y2 (by decide)]
    exact ⟨rfl, h2⟩
theorem encV_ne (x : GV) : encV x ≠ [] := by unfold encV; simp
theorem encR_inj : ∀ {r s : List GV}, (∀ x ∈ r, x.Ok) → (∀ x ∈ s, x.Ok) → (∀ x ∈ r, vsound x = true) → (∀ x ∈ s, vsound x = true) → encR r = encR s → r = s
  | [], [], _, _, _, _, _ => rfl
  | [], y :: s, _, _, _, _, h => by
    simp only [encR] at h
    exact absurd (List.append_eq_nil_iff.1 h.symm).1 (encV_ne y)
  | x :: r, [], _, _, _, _, h => by
    simp only [encR] at h
    exact absurd (List.append_eq_nil_iff.1 h).1 (encV_ne x)
  | x :: r, y :: s, o1, o2, h1, h2, h => by
    simp only [encR] at h
    obtain ⟨e1, e2⟩ := encV_inj (o1 x (by simp)) (o2 y (by simp)) (h1 x (by simp)) (h2 y (by simp)) h
    rw [e1, encR_inj (fun u hu => o1 u (by simp [hu])) (fun u hu => o2 u (by simp [hu])) (fun u hu => h1 u (by simp [hu])) (fun u hu => h2 u (by simp [hu])) e2]
/-- A row that is sound, of values of the machine. -/
def RowOk (r : List GV) : Prop := rsound r = true ∧ ∀ x ∈ r, x.Ok
theorem encB_inj {r s : List GV} (hr : RowOk r) (hs : RowOk s) (h : encB r = encB s) : r = s := by
  unfold encB at h
  rw [if_pos hr.1, if_pos hs.1] at h
  injection h with h
  exact encR_inj hr.2 hs.2 (rsound_at hr.1).2 (rsound_at hs.1).2 (by simpa using congrArg Array.toList h)
end Go.Proofs.YtmpndmjfdijamaaGreatDoor
