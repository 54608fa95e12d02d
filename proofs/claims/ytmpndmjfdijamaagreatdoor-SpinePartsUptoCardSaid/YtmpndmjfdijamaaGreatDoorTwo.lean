/- Entries of two numbers: what the plain functions say of those that 'awake' plays with. -/
import Derived.Test.YtmpndmjfdijamaaGreatDoorTold
set_option linter.unusedSimpArgs false
namespace Go.Proofs.YtmpndmjfdijamaaGreatDoor
open Go.RowKit Go.Sort
def iv (n : Int) : GV := ⟨2, n, 0, ⟨#[]⟩⟩
def r2 (a b : Int) : List GV := [iv a, iv b]
def e2 (a b w : Int) : GE := ⟨r2 a b, w⟩
def u2 (a b w : Int) : GI := ⟨encB [iv a], encB (r2 a b), r2 a b, w⟩
theorem iv_sound (n : Int) : vsound (iv n) = true := by simp [vsound, iv, eqGV]
theorem iv_ok {n : Int} (h : i64 n) : (iv n).Ok := ⟨by unfold i64 iv; simp, h, by unfold u64 iv; simp, by show ByteArray.size ⟨#[]⟩ ≤ 9223372036854775807; decide⟩
theorem r1_sound (n : Int) : rsound [iv n] = true := by simp [rsound, iv_sound]
theorem r2_sound (a b : Int) : rsound (r2 a b) = true := by simp [rsound, r2, iv_sound]
theorem encB_ok {r : List GV} (h : rsound r = true) : encB r = ⟨(encR r).toArray⟩ := by unfold encB; rw [if_pos h]
theorem pick_two (a b : Int) : pick (r2 a b) [0] = some [iv a] := by
  unfold pick
  rw [if_pos ⟨r2_sound a b, by decide⟩]
  rfl
theorem itemG_two (a b w : Int) : itemG [0] (e2 a b w) = some (u2 a b w) := by
  unfold itemG
  rw [show pick (e2 a b w).row [0] = some [iv a] from pick_two a b]
  rfl
theorem u2_cmp (a b c d v w : Int) : (u2 a b v).cmp (u2 c d w) = orv (Lib.compareBytes (encR [iv a]) (encR [iv c])) (Lib.compareBytes (encR (r2 a b)) (encR (r2 c d))) := by
  unfold GI.cmp kcmp u2 scmp
  simp only
  rw [encB_ok (r1_sound a), encB_ok (r1_sound c), encB_ok (r2_sound a b), encB_ok (r2_sound c d)]
theorem cmp_15_16 (v w : Int) : (u2 1 5 v).cmp (u2 1 6 w) < 0 := by rw [u2_cmp]; decide +kernel
theorem cmp_16_25 (v w : Int) : (u2 1 6 v).cmp (u2 2 5 w) < 0 := by rw [u2_cmp]; decide +kernel
theorem cmp_15_35 (v w : Int) : (u2 1 5 v).cmp (u2 3 5 w) < 0 := by rw [u2_cmp]; decide +kernel
theorem cmp_25_35 (v w : Int) : (u2 2 5 v).cmp (u2 3 5 w) < 0 := by rw [u2_cmp]; decide +kernel
theorem cmp_15_15 (v w : Int) : (u2 1 5 v).cmp (u2 1 5 w) = 0 := by rw [u2_cmp]; decide +kernel
theorem cmp_16_35 (v w : Int) : (u2 1 6 v).cmp (u2 3 5 w) < 0 := gicmp.lt_trans (cmp_16_25 v 0) (cmp_25_35 0 w)
theorem cmp_15_25 (v w : Int) : (u2 1 5 v).cmp (u2 2 5 w) < 0 := gicmp.lt_trans (cmp_15_16 v 0) (cmp_16_25 0 w)
def z1 : List GE := [e2 1 5 1, e2 1 6 2, e2 2 5 1]
def z2 : List GE := [e2 1 5 (-1), e2 3 5 1]
def y1 : List GI := [u2 1 5 1, u2 1 6 2, u2 2 5 1]
def y2 : List GI := [u2 1 5 (-1), u2 3 5 1]
def y3 : List GI := [u2 1 6 2, u2 2 5 1, u2 3 5 1]
def z3 : List GE := [e2 1 6 2, e2 2 5 1, e2 3 5 1]
theorem rcmp_r2 (a b c d : Int) : rcmp (r2 a b) (r2 c d) = orv (icmp a c) (orv (icmp b d) 0) := by
  rw [rcmp_lex (r2_sound a b) (r2_sound c d)]
  have hv : ∀ x y, vlex (iv x) (iv y) = icmp x y := fun x y => by
    unfold vlex iv
    simp only
    rw [icmp_cmp.refl, icmp_cmp.refl, scmp_cmp.refl]
    have o1 : ∀ x, orv 0 x = x := fun x => by simp [orv]
    rw [o1, o1, o1]
  simp only [r2, rlex, hv]
theorem z1_sound : zsound z1 = true := by
  simp only [zsound, z1, zsound0, entOk, e2, r2_sound, rcmp_r2, fair]
  decide
theorem z2_sound : zsound z2 = true := by
  simp only [zsound, z2, zsound0, entOk, e2, r2_sound, rcmp_r2, fair]
  decide
theorem items1 : itemsL [0] z1 = some y1 := by simp [itemsL, z1, itemG_two, y1]
theorem items2 : itemsL [0] z2 = some y2 := by simp [itemsL, z2, itemG_two, y2]
theorem y1_rise : Rise y1 := by
  refine List.pairwise_cons.2 ⟨?_, List.pairwise_cons.2 ⟨?_, List.pairwise_cons.2 ⟨by simp, List.Pairwise.nil⟩⟩⟩
  · intro u hu; simp at hu; rcases hu with rfl | rfl
    · exact cmp_15_16 _ _
    · exact cmp_15_25 _ _
  · intro u hu; simp at hu; subst hu; exact cmp_16_25 _ _
theorem y2_rise : Rise y2 := by
  refine List.pairwise_cons.2 ⟨?_, List.pairwise_cons.2 ⟨by simp, List.Pairwise.nil⟩⟩
  intro u hu; simp at hu; subst hu; exact cmp_15_35 _ _
theorem y3_rise : Rise y3 := by
  refine List.pairwise_cons.2 ⟨?_, List.pairwise_cons.2 ⟨?_, List.pairwise_cons.2 ⟨by simp, List.Pairwise.nil⟩⟩⟩
  · intro u hu; simp at hu; rcases hu with rfl | rfl
    · exact cmp_16_25 _ _
    · exact cmp_16_35 _ _
  · intro u hu; simp at hu; subst hu; exact cmp_25_35 _ _
theorem w64 {n : Int} (h : i64 n) : wrap64 n = n := wrap64_of h
theorem merge12 : mergeL y1 y2 = y3 := by
  unfold y1 y2 y3
  have h0 : ((u2 1 5 1).add (u2 1 5 (-1))).size = 0 := by show wrap64 (1 + -1) = 0; exact wrap64_of (by unfold i64; omega)
  rw [mergeL, if_neg (by have := cmp_15_15 1 (-1); omega), if_neg (by have := cmp_15_15 1 (-1); omega), if_neg (by simpa using h0)]
  rw [mergeL, if_pos (cmp_16_35 _ _), mergeL, if_pos (cmp_25_35 _ _), mergeL]
/-- Two rising lists of the same items are one. -/
theorem rise_perm : ∀ {a b : List GI}, a.Perm b → Rise a → Rise b → a = b
  | [], b, h, _, _ => h.symm.eq_nil.symm
  | x :: a, [], h, _, _ => h.eq_nil
  | x :: a, y :: b, h, h1, h2 => by
    have e : x = y := by
      have m1 : x ∈ y :: b := h.mem_iff.1 (by simp)
      have m2 : y ∈ x :: a := h.mem_iff.2 (by simp)
      rcases List.mem_cons.1 m1 with m1 | m1
      · exact m1
      · rcases List.mem_cons.1 m2 with m2 | m2
        · exact m2.symm
        · have a1 := h1.head y m2
          have a2 := h2.head x m1
          have a3 := gicmp.flip x y
          omega
    subst e
    rw [rise_perm ((List.perm_cons x).1 h) h1.tail h2.tail]
theorem Rise.ne {z : List GI} (h : Rise z) : z.Pairwise fun u v => u.cmp v ≠ 0 := h.imp fun h => by omega
theorem joins_one {z : List GI} {bs : List (List GI)} (h : Joins [z] bs) : bs = [z] := by
  induction h with
  | refl => rfl
  | step pre x y _ ih =>
    have := congrArg List.length ih
    simp at this
theorem over0 (s : Int) : overW 0 s = false := by simp [overW]
theorem live1 : liveL [] 0 y1 = some 3 := by
  have hw : ∀ k e, weightL [] k e = 0 := weightL_nil
  simp only [y1, liveL, hw, over0, stepN]
  rfl
theorem encB_ne {r s : List GV} (hr : RowOk r) (hs : RowOk s) (h : r ≠ s) : encB r ≠ encB s := fun e => h (encB_inj hr hs e)
theorem live2 : liveL [y1] 3 y2 = some 3 := by
  have h1 : ∀ k e, weightL [y1] k e = wrap64 (lookW y1 k e) := fun k e => by show wrap64 (0 + lookW y1 k e) = _; rw [Int.zero_add]
  have a1 : lookW y1 (u2 1 5 (-1)).key (u2 1 5 (-1)).enc = 1 := lookW_cons_eq (u2 1 5 1) _
  have a2 : lookW y1 (u2 3 5 1).key (u2 3 5 1).enc = 0 := lookW_none (by
    intro x hx
    have hc : x.cmp (u2 3 5 1) < 0 := by
      simp [y1] at hx
      rcases hx with rfl | rfl | rfl
      · exact cmp_15_35 _ _
      · exact cmp_16_35 _ _
      · exact cmp_25_35 _ _
    exact ne_of_lt_cmp hc)
  have b1 : wrap64 1 = 1 := wrap64_of (by unfold i64; omega)
  have b0 : wrap64 0 = 0 := wrap64_of (by unfold i64; omega)
  have b2 : wrap64 (1 + (u2 1 5 (-1)).size) = 0 := by show wrap64 (1 + -1) = 0; exact wrap64_of (by unfold i64; omega)
  have b3 : overW 1 (u2 1 5 (-1)).size = false := by show overW 1 (-1) = false; decide
  have s1 : stepN 3 1 (u2 1 5 (-1)).size = 2 := by unfold stepN; rw [if_neg (by decide), if_pos b2]; rfl
  have s2 : stepN 2 0 (u2 3 5 1).size = 3 := rfl
  unfold y2
  rw [liveL, h1, a1, b1, b3, if_neg (by decide), s1, liveL, h1, a2, b0, over0, if_neg (by decide), s2, liveL]
end Go.Proofs.YtmpndmjfdijamaaGreatDoor
