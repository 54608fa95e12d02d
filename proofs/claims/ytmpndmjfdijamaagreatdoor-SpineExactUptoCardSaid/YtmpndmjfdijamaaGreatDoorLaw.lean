/- The plain law of batches: what they say, what merging them leaves, how many rows there are. -/
import Derived.Test.YtmpndmjfdijamaaGreatDoorPut
set_option linter.unusedSimpArgs false
namespace Go.Proofs.YtmpndmjfdijamaaGreatDoor
open Go.RowKit Go.Sort
theorem kcmp_zero {k e k' e' : ByteArray} : kcmp k e k' e' = 0 ↔ k = k' ∧ e = e' := ⟨kcmp_eq, fun ⟨h1, h2⟩ => by rw [h1, h2]; exact kcmp_self _ _⟩
theorem lookW_nil (k e : ByteArray) : lookW [] k e = 0 := rfl
theorem lookW_cons_eq (x : GI) (z : List GI) : lookW (x :: z) x.key x.enc = x.size := by
  unfold lookW
  rw [List.find?_cons_of_pos (by simpa using kcmp_self x.key x.enc)]
theorem lookW_cons_ne {x : GI} {k e : ByteArray} (z : List GI) (h : ¬ (x.key = k ∧ x.enc = e)) : lookW (x :: z) k e = lookW z k e := by
  unfold lookW
  rw [List.find?_cons_of_neg (by simpa using fun h' => h (kcmp_eq h'))]
theorem lookW_none {z : List GI} {k e : ByteArray} (h : ∀ x ∈ z, ¬ (x.key = k ∧ x.enc = e)) : lookW z k e = 0 := by
  induction z with
  | nil => rfl
  | cons x z ih => rw [lookW_cons_ne z (h x (by simp)), ih fun y hy => h y (by simp [hy])]
theorem cmp_ne {x y : GI} (h : x.cmp y ≠ 0) : ¬ (y.key = x.key ∧ y.enc = x.enc) := fun ⟨h1, h2⟩ => h (kcmp_zero.2 ⟨h1.symm, h2.symm⟩)
/-- Nothing that is greater stands for x. -/
theorem lookW_above {x : GI} {z : List GI} (h : ∀ y ∈ z, x.cmp y < 0) : lookW z x.key x.enc = 0 := lookW_none fun y hy => cmp_ne (x := x) (y := y) (by have := h y hy; omega)
theorem Rise.tail {x : GI} {z : List GI} (h : Rise (x :: z)) : Rise z := (List.pairwise_cons.1 h).2
theorem Rise.head {x : GI} {z : List GI} (h : Rise (x :: z)) : ∀ y ∈ z, x.cmp y < 0 := (List.pairwise_cons.1 h).1
theorem Rise.above {x y : GI} {z : List GI} (h : Rise (y :: z)) (hx : x.cmp y < 0) : ∀ u ∈ y :: z, x.cmp u < 0 := by
  intro u hu
  rcases List.mem_cons.1 hu with rfl | hu
  · exact hx
  · exact gicmp.lt_trans hx (h.head u hu)
/-- Whatever holds of every item's key, bytes and row holds of the merged ones'. -/
theorem mergeL_all {P : ByteArray → ByteArray → List GV → Prop} (x y : List GI) (hx : ∀ u ∈ x, P u.key u.enc u.row) (hy : ∀ u ∈ y, P u.key u.enc u.row) : ∀ u ∈ mergeL x y, P u.key u.enc u.row := by
  fun_induction mergeL x y with
  | case1 ys => exact hy
  | case2 xs h => exact hx
  | case3 x xs y ys h ih => intro u hu; rcases List.mem_cons.1 hu with rfl | hu
                            · exact hx _ (by simp)
                            · exact ih (fun v hv => hx v (by simp [hv])) hy u hu
  | case4 x xs y ys h h' ih => intro u hu; rcases List.mem_cons.1 hu with rfl | hu
                               · exact hy _ (by simp)
                               · exact ih hx (fun v hv => hy v (by simp [hv])) u hu
  | case5 x xs y ys h h' h2 ih => intro u hu; rcases List.mem_cons.1 hu with rfl | hu
                                  · exact hx x (by simp)
                                  · exact ih (fun v hv => hx v (by simp [hv])) (fun v hv => hy v (by simp [hv])) u hu
  | case6 x xs y ys h h' h2 ih => exact ih (fun v hv => hx v (by simp [hv])) (fun v hv => hy v (by simp [hv]))
theorem mergeL_above {a : GI} {x y : List GI} (hx : ∀ u ∈ x, a.cmp u < 0) (hy : ∀ u ∈ y, a.cmp u < 0) : ∀ u ∈ mergeL x y, a.cmp u < 0 :=
  mergeL_all (P := fun k e _ => kcmp a.key a.enc k e < 0) x y hx hy
theorem mergeL_rise (x y : List GI) (hx : Rise x) (hy : Rise y) : Rise (mergeL x y) := by
  fun_induction mergeL x y with
  | case1 ys => exact hy
  | case2 xs h => exact hx
  | case3 x xs y ys h ih => exact List.pairwise_cons.2 ⟨mergeL_above hx.head (hy.above h), ih hx.tail hy⟩
  | case4 x xs y ys h h' ih => exact List.pairwise_cons.2 ⟨mergeL_above (hx.above ((gicmp.flip y x).2 h')) hy.head, ih hx hy.tail⟩
  | case5 x xs y ys h h' h2 ih =>
    have h0 : x.cmp y = 0 := by omega
    refine List.pairwise_cons.2 ⟨mergeL_above hx.head fun u hu => ?_, ih hx.tail hy.tail⟩
    exact gicmp.lt_of_le_of_lt (a := x) (b := y) (by omega) (hy.head u hu)
  | case6 x xs y ys h h' h2 ih => exact ih hx.tail hy.tail
/-- Sizes are numbers of the machine and not nought. -/
def Nz (z : List GI) : Prop := ∀ x ∈ z, x.size ≠ 0 ∧ i64 x.size
theorem wrap64_i64 (n : Int) : i64 (wrap64 n) := by unfold wrap64 i64; omega
theorem wrap64_of {n : Int} (h : i64 n) : wrap64 n = n := by unfold i64 at h; unfold wrap64; omega
theorem mergeL_nz (x y : List GI) (hx : Nz x) (hy : Nz y) : Nz (mergeL x y) := by
  fun_induction mergeL x y with
  | case1 ys => exact hy
  | case2 xs h => exact hx
  | case3 x xs y ys h ih => intro u hu; rcases List.mem_cons.1 hu with rfl | hu
                            · exact hx _ (by simp)
                            · exact ih (fun v hv => hx v (by simp [hv])) hy u hu
  | case4 x xs y ys h h' ih => intro u hu; rcases List.mem_cons.1 hu with rfl | hu
                               · exact hy _ (by simp)
                               · exact ih hx (fun v hv => hy v (by simp [hv])) u hu
  | case5 x xs y ys h h' h2 ih => intro u hu; rcases List.mem_cons.1 hu with rfl | hu
                                  · exact ⟨h2, wrap64_i64 _⟩
                                  · exact ih (fun v hv => hx v (by simp [hv])) (fun v hv => hy v (by simp [hv])) u hu
  | case6 x xs y ys h h' h2 ih => exact ih (fun v hv => hx v (by simp [hv])) (fun v hv => hy v (by simp [hv]))
theorem lookW_i64 {z : List GI} (hz : Nz z) (k e : ByteArray) : i64 (lookW z k e) := by
  unfold lookW
  split
  · next x hx => exact (hz x (List.mem_of_find?_eq_some hx)).2
  · unfold i64; omega
theorem mergeL_look (x y : List GI) (hx : Rise x) (hy : Rise y) (k e : ByteArray) : wrap64 (lookW (mergeL x y) k e) = wrap64 (lookW x k e + lookW y k e) := by
  fun_induction mergeL x y with
  | case1 ys => rw [lookW_nil, Int.zero_add]
  | case2 xs h => rw [lookW_nil, Int.add_zero]
  | case3 x xs y ys h ih =>
    by_cases hk : x.key = k ∧ x.enc = e
    · obtain ⟨rfl, rfl⟩ := hk
      rw [lookW_cons_eq, lookW_cons_eq, lookW_above (hy.above h), Int.add_zero]
    · rw [lookW_cons_ne _ hk, lookW_cons_ne _ hk, ih hx.tail hy]
  | case4 x xs y ys h h' ih =>
    by_cases hk : y.key = k ∧ y.enc = e
    · obtain ⟨rfl, rfl⟩ := hk
      rw [lookW_cons_eq, lookW_cons_eq, lookW_above (hx.above ((gicmp.flip y x).2 h')), Int.zero_add]
    · rw [lookW_cons_ne _ hk, lookW_cons_ne _ hk, ih hx hy.tail]
  | case5 x xs y ys h h' h2 ih =>
    obtain ⟨e1, e2⟩ := kcmp_eq (show kcmp x.key x.enc y.key y.enc = 0 from by unfold GI.cmp at h h'; omega)
    by_cases hk : x.key = k ∧ x.enc = e
    · obtain ⟨rfl, rfl⟩ := hk
      rw [show lookW (x.add y :: mergeL xs ys) x.key x.enc = (x.add y).size from lookW_cons_eq (x.add y) _, lookW_cons_eq, e1, e2, lookW_cons_eq]
      exact wrap64_of (wrap64_i64 _)
    · rw [lookW_cons_ne _ (show ¬ ((x.add y).key = k ∧ (x.add y).enc = e) from hk), lookW_cons_ne _ hk, lookW_cons_ne _ (by rw [← e1, ← e2]; exact hk), ih hx.tail hy.tail]
  | case6 x xs y ys h h' h2 ih =>
    obtain ⟨e1, e2⟩ := kcmp_eq (show kcmp x.key x.enc y.key y.enc = 0 from by unfold GI.cmp at h h'; omega)
    by_cases hk : x.key = k ∧ x.enc = e
    · obtain ⟨rfl, rfl⟩ := hk
      have hz : (x.add y).size = 0 := by simpa using h2
      have i1 := ih hx.tail hy.tail
      rw [lookW_above hx.head, show lookW ys x.key x.enc = 0 from by rw [e1, e2]; exact lookW_above hy.head] at i1
      rw [i1, lookW_cons_eq, show lookW (y :: ys) x.key x.enc = y.size from by rw [e1, e2]; exact lookW_cons_eq _ _]
      exact (show wrap64 (0 + 0) = 0 by rw [Int.add_zero]; exact wrap64_of (by unfold i64; omega)).trans hz.symm
    · rw [lookW_cons_ne _ hk, lookW_cons_ne _ (by rw [← e1, ← e2]; exact hk), ih hx.tail hy.tail]
/-- Two rising lists that say the same are the same but for rows. -/
theorem rise_ext : ∀ {a b : List GI}, Rise a → Rise b → Nz a → Nz b → (∀ k e, lookW a k e = lookW b k e) → a.map (fun x => (x.key, x.enc, x.size)) = b.map (fun x => (x.key, x.enc, x.size))
  | [], [], _, _, _, _, _ => rfl
  | [], y :: b, _, _, _, hb, h => by
    have := h y.key y.enc
    rw [lookW_nil, lookW_cons_eq] at this
    exact absurd this.symm (hb y (by simp)).1
  | x :: a, [], _, _, ha, _, h => by
    have := h x.key x.enc
    rw [lookW_nil, lookW_cons_eq] at this
    exact absurd this (ha x (by simp)).1
  | x :: a, y :: b, h1, h2, ha, hb, h => by
    have h0 : x.cmp y = 0 := by
      rcases Int.lt_trichotomy (x.cmp y) 0 with hc | hc | hc
      · have := h x.key x.enc
        rw [lookW_cons_eq, lookW_above (h2.above hc)] at this
        exact absurd this (ha x (by simp)).1
      · exact hc
      · have := h y.key y.enc
        rw [lookW_cons_eq, lookW_above (h1.above ((gicmp.flip y x).2 hc))] at this
        exact absurd this.symm (hb y (by simp)).1
    obtain ⟨e1, e2⟩ := kcmp_eq h0
    have hs : x.size = y.size := by
      have := h x.key x.enc
      rw [lookW_cons_eq, e1, e2, lookW_cons_eq] at this
      exact this
    have ht : ∀ k e, lookW a k e = lookW b k e := fun k e => by
      by_cases hk : x.key = k ∧ x.enc = e
      · obtain ⟨rfl, rfl⟩ := hk
        rw [lookW_above h1.head, e1, e2, lookW_above h2.head]
      · have := h k e
        rw [lookW_cons_ne _ hk, lookW_cons_ne _ (by rw [← e1, ← e2]; exact hk)] at this
        exact this
    rw [List.map_cons, List.map_cons, rise_ext h1.tail h2.tail (fun u hu => ha u (by simp [hu])) (fun u hu => hb u (by simp [hu])) ht, e1, e2, hs]
/-- What a change of one item does to the number of rows. -/
def dl (a : List GI) (y : GI) : Int := if lookW a y.key y.enc = 0 then 1 else if wrap64 (lookW a y.key y.enc + y.size) = 0 then -1 else 0
def sumI {α : Type} (f : α → Int) : List α → Int
  | [] => 0
  | x :: xs => f x + sumI f xs
theorem sumI_congr {α : Type} {f g : α → Int} : ∀ {l : List α}, (∀ x ∈ l, f x = g x) → sumI f l = sumI g l
  | [], _ => rfl
  | x :: l, h => by rw [sumI, sumI, h x (by simp), sumI_congr fun y hy => h y (by simp [hy])]
theorem sumI_perm {α : Type} (f : α → Int) {l m : List α} (h : l.Perm m) : sumI f l = sumI f m := by
  induction h with
  | nil => rfl
  | cons x _ ih => rw [sumI, sumI, ih]
  | swap x y l => simp only [sumI]; omega
  | trans _ _ ih1 ih2 => rw [ih1, ih2]
theorem dl_skip {x y : GI} {a : List GI} (h : ¬ (x.key = y.key ∧ x.enc = y.enc)) : dl (x :: a) y = dl a y := by unfold dl; rw [lookW_cons_ne _ h]
theorem ne_of_lt_cmp {x y : GI} (h : x.cmp y < 0) : ¬ (x.key = y.key ∧ x.enc = y.enc) := fun ⟨h1, h2⟩ => by
  have := (kcmp_zero (k := x.key) (e := x.enc) (k' := y.key) (e' := y.enc)).2 ⟨h1, h2⟩
  unfold GI.cmp at h
  omega
theorem mergeL_count (a ys : List GI) (ha : Rise a) (hy : Rise ys) (na : Nz a) : ((mergeL a ys).length : Int) = a.length + sumI (dl a) ys := by
  fun_induction mergeL a ys with
  | case1 ys =>
    have : ∀ l : List GI, sumI (dl []) l = l.length := fun l => by
      induction l with
      | nil => rfl
      | cons x l ih => rw [sumI, ih]; simp [dl, lookW_nil]; omega
    rw [this]; simp
  | case2 xs h => simp [sumI]
  | case3 x xs y ys h ih =>
    rw [List.length_cons, List.length_cons]
    have h1 := ih ha.tail hy (fun u hu => na u (by simp [hu]))
    have h2 : sumI (dl (x :: xs)) (y :: ys) = sumI (dl xs) (y :: ys) := sumI_congr fun u hu => dl_skip (ne_of_lt_cmp (hy.above h u hu))
    rw [h2]
    push_cast
    omega
  | case4 x xs y ys h h' ih =>
    have h1 := ih ha hy.tail na
    have h2 : dl (x :: xs) y = 1 := by
      unfold dl
      rw [lookW_above (ha.above ((gicmp.flip y x).2 h')), if_pos rfl]
    rw [List.length_cons, sumI, h2]
    push_cast
    omega
  | case5 x xs y ys h h' h2 ih =>
    obtain ⟨e1, e2⟩ := kcmp_eq (show kcmp x.key x.enc y.key y.enc = 0 from by unfold GI.cmp at h h'; omega)
    have h1 := ih ha.tail hy.tail (fun u hu => na u (by simp [hu]))
    have h3 : dl (x :: xs) y = 0 := by
      unfold dl
      rw [← e1, ← e2, lookW_cons_eq, if_neg (na x (by simp)).1, if_neg (show ¬ wrap64 (x.size + y.size) = 0 from h2)]
    have h4 : sumI (dl (x :: xs)) ys = sumI (dl xs) ys := sumI_congr fun u hu => dl_skip (by rw [e1, e2]; exact ne_of_lt_cmp (hy.head u hu))
    rw [List.length_cons, List.length_cons, sumI, h3, h4]
    push_cast
    omega
  | case6 x xs y ys h h' h2 ih =>
    obtain ⟨e1, e2⟩ := kcmp_eq (show kcmp x.key x.enc y.key y.enc = 0 from by unfold GI.cmp at h h'; omega)
    have h1 := ih ha.tail hy.tail (fun u hu => na u (by simp [hu]))
    have hz : (x.add y).size = 0 := by simpa using h2
    have h3 : dl (x :: xs) y = -1 := by
      unfold dl
      rw [← e1, ← e2, lookW_cons_eq, if_neg (na x (by simp)).1, if_pos (show wrap64 (x.size + y.size) = 0 from hz)]
    have h4 : sumI (dl (x :: xs)) ys = sumI (dl xs) ys := sumI_congr fun u hu => dl_skip (by rw [e1, e2]; exact ne_of_lt_cmp (hy.head u hu))
    rw [List.length_cons, sumI, h3, h4]
    push_cast
    omega
theorem wrap64_add (a b : Int) : wrap64 (wrap64 a + b) = wrap64 (a + b) := by unfold wrap64; omega
theorem wrap64_add' (a b : Int) : wrap64 (a + wrap64 b) = wrap64 (a + b) := by unfold wrap64; omega
/-- What is asked of a list of batches. -/
def Fine (bs : List (List GI)) : Prop := ∀ z ∈ bs, Rise z ∧ Nz z ∧ z ≠ []
def lookS (bs : List (List GI)) (k e : ByteArray) : Int := (bs.map (lookW · k e)).foldl (· + ·) 0
theorem lookS_cons (z : List GI) (bs : List (List GI)) (k e : ByteArray) : lookS (z :: bs) k e = lookW z k e + lookS bs k e := by
  unfold lookS
  rw [List.map_cons, List.foldl_cons, foldl_add]
  omega
theorem lookS_app (l m : List (List GI)) (k e : ByteArray) : lookS (l ++ m) k e = lookS l k e + lookS m k e := by
  induction l with
  | nil => show lookS m k e = 0 + lookS m k e; omega
  | cons z l ih => rw [List.cons_append, lookS_cons, lookS_cons, ih]; omega
theorem weightL_S (bs : List (List GI)) (k e : ByteArray) : weightL bs k e = wrap64 (lookS bs k e) := rfl
theorem foldl_merge : ∀ (bs : List (List GI)) (a : List GI), Rise a → Nz a → (∀ z ∈ bs, Rise z ∧ Nz z) →
    Rise (bs.foldl mergeL a) ∧ Nz (bs.foldl mergeL a) ∧ ∀ k e, wrap64 (lookW (bs.foldl mergeL a) k e) = wrap64 (lookW a k e + lookS bs k e)
  | [], a, h1, h2, _ => ⟨h1, h2, fun k e => by show wrap64 (lookW a k e) = wrap64 (lookW a k e + 0); rw [Int.add_zero]⟩
  | z :: bs, a, h1, h2, h3 => by
    obtain ⟨r, n⟩ := h3 z (by simp)
    obtain ⟨i1, i2, i3⟩ := foldl_merge bs (mergeL a z) (mergeL_rise a z h1 r) (mergeL_nz a z h2 n) fun y hy => h3 y (by simp [hy])
    refine ⟨i1, i2, fun k e => ?_⟩
    rw [List.foldl_cons, i3, ← wrap64_add, mergeL_look a z h1 r, wrap64_add, lookS_cons, Int.add_assoc]
theorem allL_fine {bs : List (List GI)} (h : Fine bs) : Rise (allL bs) ∧ Nz (allL bs) ∧ ∀ k e, lookW (allL bs) k e = weightL bs k e := by
  obtain ⟨h1, h2, h3⟩ := foldl_merge bs [] List.Pairwise.nil (by intro x hx; cases hx) fun z hz => ⟨(h z hz).1, (h z hz).2.1⟩
  refine ⟨h1, h2, fun k e => ?_⟩
  have := h3 k e
  rw [lookW_nil, Int.zero_add] at this
  rw [weightL_S, ← this]
  exact (wrap64_of (lookW_i64 h2 k e)).symm
theorem joinL_fine {pre : List (List GI)} {x y : List GI} (h : Fine (pre ++ [x, y])) : Fine (joinL pre x y) ∧ ∀ k e, weightL (joinL pre x y) k e = weightL (pre ++ [x, y]) k e := by
  have hx := h x (by simp)
  have hy := h y (by simp)
  have hp : Fine pre := fun z hz => h z (by simp [hz])
  have hs : ∀ k e, lookS (pre ++ [x, y]) k e = lookS pre k e + (lookW x k e + lookW y k e) := fun k e => by
    rw [lookS_app, lookS_cons, lookS_cons]
    show _ + (_ + (_ + 0)) = _
    omega
  unfold joinL
  by_cases hm : mergeL x y = []
  · rw [if_pos hm]
    refine ⟨hp, fun k e => ?_⟩
    have := mergeL_look x y hx.1 hy.1 k e
    rw [hm, lookW_nil] at this
    rw [weightL_S, weightL_S, hs, ← wrap64_add', ← this, show wrap64 0 = 0 from wrap64_of (by unfold i64; omega), Int.add_zero]
  · rw [if_neg hm]
    refine ⟨fun z hz => ?_, fun k e => ?_⟩
    · rcases List.mem_append.1 hz with hz | hz
      · exact hp z hz
      · rw [List.mem_singleton.1 hz]
        exact ⟨mergeL_rise x y hx.1 hy.1, mergeL_nz x y hx.2.1 hy.2.1, hm⟩
    · have := mergeL_look x y hx.1 hy.1 k e
      rw [weightL_S, weightL_S, hs, ← wrap64_add', ← this, wrap64_add', lookS_app, lookS_cons]
      show wrap64 (_ + (_ + 0)) = _
      rw [Int.add_zero]
theorem Joins.fine {bs bs' : List (List GI)} (h : Joins bs bs') (hf : Fine bs) : Fine bs' ∧ ∀ k e, weightL bs' k e = weightL bs k e := by
  induction h with
  | refl => exact ⟨hf, fun _ _ => rfl⟩
  | step pre x y _ ih =>
    obtain ⟨h1, h2⟩ := joinL_fine ih.1
    exact ⟨h1, fun k e => (h2 k e).trans (ih.2 k e)⟩
theorem Joins.row {P : ByteArray → ByteArray → List GV → Prop} {bs bs' : List (List GI)} (h : Joins bs bs') (hf : ∀ z ∈ bs, ∀ u ∈ z, P u.key u.enc u.row) : ∀ z ∈ bs', ∀ u ∈ z, P u.key u.enc u.row := by
  induction h with
  | refl => exact hf
  | step pre x y _ ih =>
    unfold joinL
    intro z hz
    have hx := ih x (by simp)
    have hy := ih y (by simp)
    split at hz
    · exact ih z (by simp [hz])
    · rcases List.mem_append.1 hz with hz | hz
      · exact ih z (by simp [hz])
      · rw [List.mem_singleton.1 hz]
        exact mergeL_all x y hx hy
/-- How many rows: the same after batches are joined. -/
theorem Joins.count {bs bs' : List (List GI)} (h : Joins bs bs') (hf : Fine bs) : (allL bs').length = (allL bs).length := by
  obtain ⟨h1, h2⟩ := h.fine hf
  obtain ⟨a1, a2, a3⟩ := allL_fine h1
  obtain ⟨b1, b2, b3⟩ := allL_fine hf
  have := rise_ext a1 b1 a2 b2 fun k e => by rw [a3, b3, h2]
  simpa using congrArg List.length this
theorem liveL_sum {bs : List (List GI)} (hf : Fine bs) : ∀ {xs : List GI} {l l' : Int}, liveL bs l xs = some l' → l' = l + sumI (dl (allL bs)) xs
  | [], l, l', h => by
    simp only [liveL, Option.some.injEq] at h
    rw [← h, sumI, Int.add_zero]
  | x :: xs, l, l', h => by
    unfold liveL at h
    split at h
    · cases h
    · rw [liveL_sum hf h, sumI]
      have : stepN l (weightL bs x.key x.enc) x.size = l + dl (allL bs) x := by
        unfold stepN dl
        rw [(allL_fine hf).2.2]
        repeat' split
        all_goals omega
      rw [this]
      omega
/-- The number of rows behind a change. -/
theorem put_count {bs : List (List GI)} (hf : Fine bs) {xs ys : List GI} (hp : ys.Perm xs) (hr : Rise ys) {l l' : Int} (hl : l = (allL bs).length) (h : liveL bs l xs = some l') : l' = (allL (bs ++ [ys])).length := by
  have h1 := liveL_sum hf h
  have h2 : allL (bs ++ [ys]) = mergeL (allL bs) ys := by unfold allL; rw [List.foldl_append]; rfl
  rw [h2, mergeL_count _ _ (allL_fine hf).1 hr (allL_fine hf).2.1, sumI_perm _ hp, h1, hl]
end Go.Proofs.YtmpndmjfdijamaaGreatDoor
