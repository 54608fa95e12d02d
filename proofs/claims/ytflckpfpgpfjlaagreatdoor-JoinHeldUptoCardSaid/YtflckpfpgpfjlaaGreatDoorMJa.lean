/- Bags as the statements of the join have them. A change of one side in two halves: the plain law. -/
import Derived.Test.YtflckpfpgpfjlaaGreatDoorMJq
import Derived.Test.YtflckpfpgpfjlaaGreatDoorMJn
set_option linter.unusedVariables false
set_option linter.unusedSimpArgs false
section
namespace Go.Proofs.YtflckpfpgpfjlaaGreatDoor
open Go.RowKit Go.Sort
structure WBag (n : Nat) (z : List GE) : Prop where
  ok : ZOk z
  len : ∀ x ∈ z, x.row.length = n
  w : ∀ x ∈ z, 1 ≤ x.w ∧ x.w ≤ 1099511627776
theorem WBag.nil (n : Nat) : WBag n [] := ⟨ZOk.nil, (fun x hx => by cases hx), (fun x hx => by cases hx)⟩
theorem WBag.at {n : Nat} {z : List GE} (h : WBag n z) (r : List GV) : 0 ≤ zw z r ∧ zw z r ≤ 1099511627776 := by
  by_cases h0 : zw z r = 0
  · rw [h0]; exact ⟨by decide, by decide⟩
  · obtain ⟨x, hx, rfl⟩ := zw_mem h0
    rw [h.ok.at hx]
    have := h.w x hx
    omega
structure BagOk (n : Nat) (z d y : List GE) : Prop where
  few : d.length ≤ 40
  len : ∀ x ∈ d, x.row.length = n
  sd : zsound d = true
  made : Made (z ++ d) y
  w : ∀ x ∈ y, 1 ≤ x.w ∧ x.w ≤ 1099511627776
theorem BagOk.bag {n : Nat} {z d y : List GE} (h : BagOk n z d y) (hz : WBag n z) : WBag n y := ⟨h.made.ok, fun x hx => by
  have h1 := h.made.ok.w x hx
  rw [← h.made.ok.at hx, h.made.sum] at h1
  obtain ⟨u, hu, e⟩ := zw_mem h1
  rw [← e]
  rcases List.mem_append.1 hu with hu | hu
  · exact hz.len u hu
  · exact h.len u hu, h.w⟩
theorem BagOk.at {n : Nat} {z d y : List GE} (h : BagOk n z d y) (r : List GV) : zw y r = zw z r + zw d r := by rw [h.made.sum, zw_app]
theorem pickL_in {r : List GV} : ∀ {cols : List Int}, (∀ c ∈ cols, 0 ≤ c ∧ c < (r.length : Int)) → ∃ k, pickL r cols = some k
  | [], _ => ⟨[], rfl⟩
  | c :: cols, h => by
    obtain ⟨h1, h2⟩ := h c (by simp)
    obtain ⟨k, hk⟩ := pickL_in (cols := cols) fun d hd => h d (by simp [hd])
    have hlt : c.toNat < r.length := by omega
    refine ⟨r[c.toNat] :: k, ?_⟩
    rw [pickL, if_neg (by omega), List.getElem?_eq_getElem hlt]
    simp only [hk, Option.map_some]
theorem colsIn_mem {cols : List Int} {n : Int} (h : colsIn cols n = true) : cols.length ≤ 1024 ∧ ∀ c ∈ cols, 0 ≤ c ∧ c < n := by
  unfold colsIn at h
  rw [Bool.and_eq_true, decide_eq_true_eq, List.all_eq_true] at h
  refine ⟨h.1, fun c hc => ?_⟩
  have := h.2 c hc
  rw [Bool.and_eq_true, decide_eq_true_eq, decide_eq_true_eq] at this
  exact this
theorem pick_in {cols : List Int} {r : List GV} {n : Nat} (hr : RowOk r) (hl : r.length = n) (h : colsIn cols (n : Int) = true) : ∃ k, pick r cols = some k := by
  obtain ⟨h1, h2⟩ := colsIn_mem h
  unfold pick
  rw [if_pos ⟨hr.1, h1⟩]
  exact pickL_in fun c hc => by rw [hl]; exact h2 c hc
structure Cols2 (lc rc : List Int) (a b : Nat) : Prop where
  same : lc.length = rc.length
  left : colsIn lc (a : Int) = true
  right : colsIn rc (b : Int) = true
  wide : a + b ≤ 1024
theorem cols_of {lc rc : List Int} {x y : Int} (h : joinOk lc rc x y = true) : ∃ a b : Nat, x = a ∧ y = b ∧ Cols2 lc rc a b := by
  unfold joinOk joinIn at h
  simp only [Bool.and_eq_true, decide_eq_true_eq] at h
  refine ⟨x.toNat, y.toNat, by omega, by omega, h.1.2.1.1, ?_, ?_, by omega⟩
  · rw [show ((x.toNat : Nat) : Int) = x by omega]; exact h.1.2.1.2
  · rw [show ((y.toNat : Nat) : Int) = y by omega]; exact h.1.2.2
theorem JFit.of {lc rc : List Int} {wl wr : Nat} {a b da db a2 b2 : List GE} (hc : Cols2 lc rc wl wr) (ha : WBag wl a) (hb : WBag wr b) (h1 : BagOk wl a da a2) (h2 : BagOk wr b db b2) (hda : ZOk da) (hdb : ZOk db) : JFit lc rc wl wr a b da db where
  za := ha.ok
  zb := hb.ok
  zda := hda
  zdb := hdb
  aw := ha.at
  bw := hb.at
  a' r := by rw [← h1.at r]; exact (h1.bag ha).at r
  b' r := by rw [← h2.at r]; exact (h2.bag hb).at r
  al := ha.len
  bl := hb.len
  dal := h1.len
  dbl := h2.len
  lk r hr hl := pick_in hr hl hc.left
  rk r hr hl := pick_in hr hl hc.right
theorem small_vast {lc rc : List Int} {wl wr : Nat} {a b da db a2 b2 : List GE} (ha : WBag wl a) (hb : WBag wr b) (h1 : BagOk wl a da a2) (h2 : BagOk wr b db b2) : Small lc rc a2 b2 ↔ ¬ Vast lc rc wl wr a b da db := by
  have ha2 := h1.bag ha
  have hb2 := h2.bag hb
  constructor
  · rintro hs ⟨p, q, hp, hq, hpl, hql, hk, hm⟩
    rw [← h1.at, ← h2.at] at hm
    have := hs.at ha2.ok hb2.ok p q hk
    omega
  · intro hv x hx y hy hm
    by_cases hle : x.w * y.w ≤ 1099511627776
    · exact hle
    · refine absurd ⟨x.row, y.row, ha2.ok.row x hx, hb2.ok.row y hy, ha2.len x hx, hb2.len y hy, (sameR_eq _ _).1 hm, ?_⟩ hv
      rw [← h1.at, ← h2.at, ha2.ok.at hx, hb2.ok.at hy]
      omega
end Go.Proofs.YtflckpfpgpfjlaaGreatDoor
end
section
namespace Go.Proofs.YtflckpfpgpfjlaaGreatDoor
open Go.RowKit Go.Sort
section
variable {lc rc : List Int} {wl wr : Nat} {a b da db : List GE}
end
end Go.Proofs.YtflckpfpgpfjlaaGreatDoor
end
