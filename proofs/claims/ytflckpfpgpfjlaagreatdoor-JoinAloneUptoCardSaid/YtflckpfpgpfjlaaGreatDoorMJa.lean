/- Bags as the statements of the join have them. A change of one side in two halves: the plain law. -/
import Derived.Test.YtflckpfpgpfjlaaGreatDoorMJq
import Derived.Test.YtflckpfpgpfjlaaGreatDoorMJn
set_option linter.unusedVariables false
set_option linter.unusedSimpArgs false
section
namespace Go.Proofs.YtflckpfpgpfjlaaGreatDoor
open Go.RowKit Go.Sort
/-- A bag of rows so wide, of weights that are asked. -/
structure WBag (n : Nat) (z : List GE) : Prop where
  ok : ZOk z
  len : ∀ x ∈ z, x.row.length = n
  w : ∀ x ∈ z, 1 ≤ x.w ∧ x.w ≤ 1099511627776
theorem WBag.nil (n : Nat) : WBag n [] := ⟨ZOk.nil, (fun x hx => by cases hx), (fun x hx => by cases hx)⟩
theorem WBag.fair {n : Nat} {z : List GE} (h : WBag n z) : FairZ z := fun x hx => by
  have := h.w x hx
  exact fair_of (by omega) (by omega)
theorem WBag.at {n : Nat} {z : List GE} (h : WBag n z) (r : List GV) : 0 ≤ zw z r ∧ zw z r ≤ 1099511627776 := by
  by_cases h0 : zw z r = 0
  · rw [h0]; exact ⟨by decide, by decide⟩
  · obtain ⟨x, hx, rfl⟩ := zw_mem h0
    rw [h.ok.at hx]
    have := h.w x hx
    omega
/-- bag: the bag z with the change d is the bag y. -/
structure BagOk (n : Nat) (z d y : List GE) : Prop where
  few : d.length ≤ 40
  len : ∀ x ∈ d, x.row.length = n
  sd : zsound d = true
  made : Made (z ++ d) y
  w : ∀ x ∈ y, 1 ≤ x.w ∧ x.w ≤ 1099511627776
theorem BagOk.bag {n : Nat} {z d y : List GE} (h : BagOk n z d y) (hz : WBag n z) : WBag n y := ⟨h.made.ok, fun x hx => by
  have h1 := h.made.ok.w x hx
  rw [← h.made.ok.at hx, h.made.sum] at h1
  obtain ⟨u, hu, e⟩ := zw_mem h1
  rw [← e]
  rcases List.mem_append.1 hu with hu | hu
  · exact hz.len u hu
  · exact h.len u hu, h.w⟩
theorem BagOk.at {n : Nat} {z d y : List GE} (h : BagOk n z d y) (r : List GV) : zw y r = zw z r + zw d r := by rw [h.made.sum, zw_app]
theorem BagOk.sum {n : Nat} {z d y : List GE} (h : BagOk n z d y) : ZSum z d y := fun r _ => h.at r
theorem pickL_in {r : List GV} : ∀ {cols : List Int}, (∀ c ∈ cols, 0 ≤ c ∧ c < (r.length : Int)) → ∃ k, pickL r cols = some k
  | [], _ => ⟨[], rfl⟩
  | c :: cols, h => by
    obtain ⟨h1, h2⟩ := h c (by simp)
    obtain ⟨k, hk⟩ := pickL_in (cols := cols) fun d hd => h d (by simp [hd])
    have hlt : c.toNat < r.length := by omega
    refine ⟨r[c.toNat] :: k, ?_⟩
    rw [pickL, if_neg (by omega), List.getElem?_eq_getElem hlt]
    simp only [hk, Option.map_some]
theorem colsIn_mem {cols : List Int} {n : Int} (h : colsIn cols n = true) : cols.length ≤ 1024 ∧ ∀ c ∈ cols, 0 ≤ c ∧ c < n := by
  unfold colsIn at h
  rw [Bool.and_eq_true, decide_eq_true_eq, List.all_eq_true] at h
  refine ⟨h.1, fun c hc => ?_⟩
  have := h.2 c hc
  rw [Bool.and_eq_true, decide_eq_true_eq, decide_eq_true_eq] at this
  exact this
theorem pick_in {cols : List Int} {r : List GV} {n : Nat} (hr : RowOk r) (hl : r.length = n) (h : colsIn cols (n : Int) = true) : ∃ k, pick r cols = some k := by
  obtain ⟨h1, h2⟩ := colsIn_mem h
  unfold pick
  rw [if_pos ⟨hr.1, h1⟩]
  exact pickL_in fun c hc => by rw [hl]; exact h2 c hc
/-- The columns of a join of widths a and b. -/
structure Cols2 (lc rc : List Int) (a b : Nat) : Prop where
  same : lc.length = rc.length
  left : colsIn lc (a : Int) = true
  right : colsIn rc (b : Int) = true
  wide : a + b ≤ 1024
theorem cols_of {lc rc : List Int} {x y : Int} (h : joinOk lc rc x y = true) : ∃ a b : Nat, x = a ∧ y = b ∧ Cols2 lc rc a b := by
  unfold joinOk joinIn at h
  simp only [Bool.and_eq_true, decide_eq_true_eq] at h
  refine ⟨x.toNat, y.toNat, by omega, by omega, h.1.2.1.1, ?_, ?_, by omega⟩
  · rw [show ((x.toNat : Nat) : Int) = x by omega]; exact h.1.2.1.2
  · rw [show ((y.toNat : Nat) : Int) = y by omega]; exact h.1.2.2
theorem Cols2.turn {lc rc : List Int} {a b : Nat} (h : Cols2 lc rc a b) : Cols2 rc lc b a := ⟨h.same.symm, h.right, h.left, by rw [Nat.add_comm]; exact h.wide⟩
theorem JFit.of {lc rc : List Int} {wl wr : Nat} {a b da db a2 b2 : List GE} (hc : Cols2 lc rc wl wr) (ha : WBag wl a) (hb : WBag wr b) (h1 : BagOk wl a da a2) (h2 : BagOk wr b db b2) (hda : ZOk da) (hdb : ZOk db) : JFit lc rc wl wr a b da db where
  za := ha.ok
  zb := hb.ok
  zda := hda
  zdb := hdb
  aw := ha.at
  bw := hb.at
  a' r := by rw [← h1.at r]; exact (h1.bag ha).at r
  b' r := by rw [← h2.at r]; exact (h2.bag hb).at r
  al := ha.len
  bl := hb.len
  dal := h1.len
  dbl := h2.len
  lk r hr hl := pick_in hr hl hc.left
  rk r hr hl := pick_in hr hl hc.right
/-- A pair of the new bags is too great, or none is. -/
theorem small_vast {lc rc : List Int} {wl wr : Nat} {a b da db a2 b2 : List GE} (ha : WBag wl a) (hb : WBag wr b) (h1 : BagOk wl a da a2) (h2 : BagOk wr b db b2) : Small lc rc a2 b2 ↔ ¬ Vast lc rc wl wr a b da db := by
  have ha2 := h1.bag ha
  have hb2 := h2.bag hb
  constructor
  · rintro hs ⟨p, q, hp, hq, hpl, hql, hk, hm⟩
    rw [← h1.at, ← h2.at] at hm
    have := hs.at ha2.ok hb2.ok p q hk
    omega
  · intro hv x hx y hy hm
    by_cases hle : x.w * y.w ≤ 1099511627776
    · exact hle
    · refine absurd ⟨x.row, y.row, ha2.ok.row x hx, hb2.ok.row y hy, ha2.len x hx, hb2.len y hy, (sameR_eq _ _).1 hm, ?_⟩ hv
      rw [← h1.at, ← h2.at, ha2.ok.at hx, hb2.ok.at hy]
      omega
end Go.Proofs.YtflckpfpgpfjlaaGreatDoor
end
section
namespace Go.Proofs.YtflckpfpgpfjlaaGreatDoor
open Go.RowKit Go.Sort
section
variable {lc rc : List Int} {wl wr : Nat} {a b da db : List GE}
/-- Where no pair changes, nothing is answered. -/
theorem JDelta.none {z : List GE} (h : JDelta lc rc wl wr a b da db z) (h0 : ∀ p q, jw lc rc (zw a p + zw da p) (zw b q + zw db q) p q = jw lc rc (zw a p) (zw b q) p q) : z = [] := by
  cases z with
  | nil => rfl
  | cons x z =>
    obtain ⟨p, q, hp, hq, hpl, hql, e⟩ := h.pair x (by simp)
    have h1 := h.ok.w x (by simp)
    rw [← h.ok.at (x := x) (by simp), e, h.pt p q hp hq hpl hql, h0, Int.sub_self] at h1
    exact absurd rfl h1
theorem JDelta.left0 {z : List GE} (h : JDelta lc rc wl wr [] b [] db z) : z = [] := h.none fun p q => by rw [zw_nil, Int.add_zero, jw_zero, jw_zero]
theorem JDelta.still {z : List GE} (h : JDelta lc rc wl wr a b [] [] z) : z = [] := h.none fun p q => by rw [zw_nil, zw_nil, Int.add_zero, Int.add_zero]
theorem JDelta.halves {c1 c2 d z1 z2 z : List GE} (h1 : JDelta lc rc wl wr [] b c1 [] z1) (h2 : JDelta lc rc wl wr c1 b c2 [] z2) (h : JDelta lc rc wl wr [] b d [] z) (hs : ∀ r, zw d r = zw c1 r + zw c2 r) : overL (z1 ++ z2) = false ∧ ∀ s, Made (z1 ++ z2) s → s = z := by
  have hp : ∀ x ∈ z1 ++ z2, Pair wl wr x.row := fun x hx => by
    rcases List.mem_append.1 hx with hx | hx
    · exact h1.pair x hx
    · exact h2.pair x hx
  have key : ∀ p q, RowOk p → RowOk q → p.length = wl → q.length = wr → zw (z1 ++ z2) (p ++ q) = zw z (p ++ q) := fun p q hp hq hpl hql => by
    rw [zw_app, h1.pt p q hp hq hpl hql, h2.pt p q hp hq hpl hql, h.pt p q hp hq hpl hql]
    simp only [zw_nil, Int.zero_add, Int.add_zero, jw_zero, hs p]
    omega
  refine ⟨?_, fun s hm => pair_ext hm.ok h.ok (fun x hx => ?_) h.pair fun p q hp hq hpl hql => by rw [hm.sum, key p q hp hq hpl hql]⟩
  · unfold overL
    rw [List.any_eq_false]
    intro x hx
    obtain ⟨p, q, hp, hq, hpl, hql, e⟩ := hp x hx
    rw [e, key p q hp hq hpl hql, h.fz.at h.ok (p ++ q)]
    simp
  · have h3 := hm.ok.w x hx
    rw [← hm.ok.at hx, hm.sum] at h3
    obtain ⟨u, hu, e⟩ := zw_mem h3
    rw [← e]
    exact hp u hu
theorem zw_take (d : List GE) (n : Nat) (r : List GV) : zw d r = zw (d.take n) r + zw (d.drop n) r := by rw [← zw_app, List.take_append_drop]
/-- A part of a bag weighs what the bag weighs, or nothing. -/
theorem part_at {n : Nat} {d c : List GE} (hd : WBag n d) (hs : c.Sublist d) : WBag n c ∧ ∀ r, zw c r = 0 ∨ zw c r = zw d r := by
  have hc : WBag n c := ⟨hd.ok.sub hs, fun x hx => hd.len x (hs.subset hx), fun x hx => hd.w x (hs.subset hx)⟩
  refine ⟨hc, fun r => ?_⟩
  by_cases h0 : zw c r = 0
  · exact .inl h0
  · obtain ⟨x, hx, rfl⟩ := zw_mem h0
    exact .inr (by rw [hc.ok.at hx, hd.ok.at (hs.subset hx)])
/-- Bags that a change of the left alone moves. -/
theorem JFit.lone {c1 c2 : List GE} (hc : Cols2 lc rc wl wr) (hb : WBag wr b) (h1 : WBag wl c1) (h2 : WBag wl c2) (hs : ∀ r, zw c1 r + zw c2 r ≤ 1099511627776) : JFit lc rc wl wr c1 b c2 [] where
  za := h1.ok
  zb := hb.ok
  zda := h2.ok
  zdb := ZOk.nil
  aw := h1.at
  bw := hb.at
  a' r := ⟨by have := (h1.at r).1; have := (h2.at r).1; omega, hs r⟩
  b' r := by rw [zw_nil, Int.add_zero]; exact hb.at r
  al := h1.len
  bl := hb.len
  dal := h2.len
  dbl := fun x hx => by cases hx
  lk r hr hl := pick_in hr hl hc.left
  rk r hr hl := pick_in hr hl hc.right
theorem JFit.lone' {d : List GE} (hc : Cols2 lc rc wl wr) (hd : WBag wr d) : JFit lc rc wl wr [] [] [] d where
  za := ZOk.nil
  zb := ZOk.nil
  zda := ZOk.nil
  zdb := hd.ok
  aw := (WBag.nil wl).at
  bw := (WBag.nil wr).at
  a' r := by rw [zw_nil]; exact ⟨by decide, by decide⟩
  b' r := by rw [zw_nil, Int.zero_add]; exact hd.at r
  al := fun x hx => by cases hx
  bl := fun x hx => by cases hx
  dal := fun x hx => by cases hx
  dbl := hd.len
  lk r hr hl := pick_in hr hl hc.left
  rk r hr hl := pick_in hr hl hc.right
theorem vast_none {d : List GE} : ¬ Vast lc rc wl wr [] b [] d := by
  rintro ⟨p, q, _, _, _, _, _, h⟩
  rw [zw_nil, Int.add_zero, Int.zero_mul] at h
  omega
/-- The first half is too great: then the whole is. -/
theorem vast_half {d : List GE} {n : Nat} (hd : WBag wl d) (h : Vast lc rc wl wr [] b (d.take n) []) : Vast lc rc wl wr [] b d [] := by
  obtain ⟨p, q, h1, h2, h3, h4, h5, h6⟩ := h
  refine ⟨p, q, h1, h2, h3, h4, h5, ?_⟩
  rw [zw_nil, Int.zero_add] at *
  rcases (part_at hd (List.take_sublist n d)).2 p with h7 | h7
  · rw [h7, Int.zero_mul] at h6
    omega
  · rw [h7] at h6
    exact h6
theorem vast_halves {d : List GE} (n : Nat) : Vast lc rc wl wr (d.take n) b (d.drop n) [] ↔ Vast lc rc wl wr [] b d [] := by
  unfold Vast
  simp only [zw_nil, Int.zero_add, Int.add_zero, ← zw_take]
end
end Go.Proofs.YtflckpfpgpfjlaaGreatDoor
end
