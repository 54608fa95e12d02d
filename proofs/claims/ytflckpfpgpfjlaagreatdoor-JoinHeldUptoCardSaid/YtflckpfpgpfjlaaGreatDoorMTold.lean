/- The plain law of batches: what they say, what merging them leaves, how many rows there are. The walks of the reference's Same of rows and of multisets. Sound rows are told by their bytes. What a spine keeps: the invariant, and that Put and Compact keep it; what All tells is one list. What a spine tells: one multiset, and what its calls do to it. -/
import Derived.Test.YtflckpfpgpfjlaaGreatDoorMPut
import Derived.BigQuiet
set_option linter.unusedSimpArgs false
set_option linter.unusedVariables false
section
namespace Go.Proofs.YtflckpfpgpfjlaaGreatDoor
open Go.RowKit Go.Sort
theorem kcmp_zero {k e k' e' : ByteArray} : kcmp k e k' e' = 0 ↔ k = k' ∧ e = e' := ⟨kcmp_eq, fun ⟨h1, h2⟩ => by rw [h1, h2]; exact kcmp_self _ _⟩
theorem lookW_nil (k e : ByteArray) : lookW [] k e = 0 := rfl
theorem lookW_cons_eq (x : GI) (z : List GI) : lookW (x :: z) x.key x.enc = x.size := by
  unfold lookW
  rw [List.find?_cons_of_pos (by simpa using kcmp_self x.key x.enc)]
theorem lookW_cons_ne {x : GI} {k e : ByteArray} (z : List GI) (h : ¬ (x.key = k ∧ x.enc = e)) : lookW (x :: z) k e = lookW z k e := by
  unfold lookW
  rw [List.find?_cons_of_neg (by simpa using fun h' => h (kcmp_eq h'))]
theorem lookW_none {z : List GI} {k e : ByteArray} (h : ∀ x ∈ z, ¬ (x.key = k ∧ x.enc = e)) : lookW z k e = 0 := by
  induction z with
  | nil => rfl
  | cons x z ih => rw [lookW_cons_ne z (h x (by simp)), ih fun y hy => h y (by simp [hy])]
theorem cmp_ne {x y : GI} (h : x.cmp y ≠ 0) : ¬ (y.key = x.key ∧ y.enc = x.enc) := fun ⟨h1, h2⟩ => h (kcmp_zero.2 ⟨h1.symm, h2.symm⟩)
/-- Nothing that is greater stands for x. -/
theorem lookW_above {x : GI} {z : List GI} (h : ∀ y ∈ z, x.cmp y < 0) : lookW z x.key x.enc = 0 := lookW_none fun y hy => cmp_ne (x := x) (y := y) (by have := h y hy; omega)
theorem Rise.tail {x : GI} {z : List GI} (h : Rise (x :: z)) : Rise z := (List.pairwise_cons.1 h).2
theorem Rise.head {x : GI} {z : List GI} (h : Rise (x :: z)) : ∀ y ∈ z, x.cmp y < 0 := (List.pairwise_cons.1 h).1
theorem Rise.above {x y : GI} {z : List GI} (h : Rise (y :: z)) (hx : x.cmp y < 0) : ∀ u ∈ y :: z, x.cmp u < 0 := by
  intro u hu
  rcases List.mem_cons.1 hu with rfl | hu
  · exact hx
  · exact gicmp.lt_trans hx (h.head u hu)
/-- Whatever holds of every item's key, bytes and row holds of the merged ones'. -/
theorem mergeL_all {P : ByteArray → ByteArray → List GV → Prop} (x y : List GI) (hx : ∀ u ∈ x, P u.key u.enc u.row) (hy : ∀ u ∈ y, P u.key u.enc u.row) : ∀ u ∈ mergeL x y, P u.key u.enc u.row := by
  fun_induction mergeL x y with
  | case1 ys => exact hy
  | case2 xs h => exact hx
  | case3 x xs y ys h ih => intro u hu; rcases List.mem_cons.1 hu with rfl | hu
                            · exact hx _ (by simp)
                            · exact ih (fun v hv => hx v (by simp [hv])) hy u hu
  | case4 x xs y ys h h' ih => intro u hu; rcases List.mem_cons.1 hu with rfl | hu
                               · exact hy _ (by simp)
                               · exact ih hx (fun v hv => hy v (by simp [hv])) u hu
  | case5 x xs y ys h h' h2 ih => intro u hu; rcases List.mem_cons.1 hu with rfl | hu
                                  · exact hx x (by simp)
                                  · exact ih (fun v hv => hx v (by simp [hv])) (fun v hv => hy v (by simp [hv])) u hu
  | case6 x xs y ys h h' h2 ih => exact ih (fun v hv => hx v (by simp [hv])) (fun v hv => hy v (by simp [hv]))
theorem mergeL_above {a : GI} {x y : List GI} (hx : ∀ u ∈ x, a.cmp u < 0) (hy : ∀ u ∈ y, a.cmp u < 0) : ∀ u ∈ mergeL x y, a.cmp u < 0 :=
  mergeL_all (P := fun k e _ => kcmp a.key a.enc k e < 0) x y hx hy
theorem mergeL_rise (x y : List GI) (hx : Rise x) (hy : Rise y) : Rise (mergeL x y) := by
  fun_induction mergeL x y with
  | case1 ys => exact hy
  | case2 xs h => exact hx
  | case3 x xs y ys h ih => exact List.pairwise_cons.2 ⟨mergeL_above hx.head (hy.above h), ih hx.tail hy⟩
  | case4 x xs y ys h h' ih => exact List.pairwise_cons.2 ⟨mergeL_above (hx.above ((gicmp.flip y x).2 h')) hy.head, ih hx hy.tail⟩
  | case5 x xs y ys h h' h2 ih =>
    have h0 : x.cmp y = 0 := by omega
    refine List.pairwise_cons.2 ⟨mergeL_above hx.head fun u hu => ?_, ih hx.tail hy.tail⟩
    exact gicmp.lt_of_le_of_lt (a := x) (b := y) (by omega) (hy.head u hu)
  | case6 x xs y ys h h' h2 ih => exact ih hx.tail hy.tail
/-- Sizes are numbers of the machine and not nought. -/
def Nz (z : List GI) : Prop := ∀ x ∈ z, x.size ≠ 0 ∧ i64 x.size
theorem wrap64_i64 (n : Int) : i64 (wrap64 n) := by unfold wrap64 i64; omega
theorem wrap64_of {n : Int} (h : i64 n) : wrap64 n = n := by unfold i64 at h; unfold wrap64; omega
theorem mergeL_nz (x y : List GI) (hx : Nz x) (hy : Nz y) : Nz (mergeL x y) := by
  fun_induction mergeL x y with
  | case1 ys => exact hy
  | case2 xs h => exact hx
  | case3 x xs y ys h ih => intro u hu; rcases List.mem_cons.1 hu with rfl | hu
                            · exact hx _ (by simp)
                            · exact ih (fun v hv => hx v (by simp [hv])) hy u hu
  | case4 x xs y ys h h' ih => intro u hu; rcases List.mem_cons.1 hu with rfl | hu
                               · exact hy _ (by simp)
                               · exact ih hx (fun v hv => hy v (by simp [hv])) u hu
  | case5 x xs y ys h h' h2 ih => intro u hu; rcases List.mem_cons.1 hu with rfl | hu
                                  · exact ⟨h2, wrap64_i64 _⟩
                                  · exact ih (fun v hv => hx v (by simp [hv])) (fun v hv => hy v (by simp [hv])) u hu
  | case6 x xs y ys h h' h2 ih => exact ih (fun v hv => hx v (by simp [hv])) (fun v hv => hy v (by simp [hv]))
theorem lookW_i64 {z : List GI} (hz : Nz z) (k e : ByteArray) : i64 (lookW z k e) := by
  unfold lookW
  split
  · next x hx => exact (hz x (List.mem_of_find?_eq_some hx)).2
  · unfold i64; omega
theorem mergeL_look (x y : List GI) (hx : Rise x) (hy : Rise y) (k e : ByteArray) : wrap64 (lookW (mergeL x y) k e) = wrap64 (lookW x k e + lookW y k e) := by
  fun_induction mergeL x y with
  | case1 ys => rw [lookW_nil, Int.zero_add]
  | case2 xs h => rw [lookW_nil, Int.add_zero]
  | case3 x xs y ys h ih =>
    by_cases hk : x.key = k ∧ x.enc = e
    · obtain ⟨rfl, rfl⟩ := hk
      rw [lookW_cons_eq, lookW_cons_eq, lookW_above (hy.above h), Int.add_zero]
    · rw [lookW_cons_ne _ hk, lookW_cons_ne _ hk, ih hx.tail hy]
  | case4 x xs y ys h h' ih =>
    by_cases hk : y.key = k ∧ y.enc = e
    · obtain ⟨rfl, rfl⟩ := hk
      rw [lookW_cons_eq, lookW_cons_eq, lookW_above (hx.above ((gicmp.flip y x).2 h')), Int.zero_add]
    · rw [lookW_cons_ne _ hk, lookW_cons_ne _ hk, ih hx hy.tail]
  | case5 x xs y ys h h' h2 ih =>
    obtain ⟨e1, e2⟩ := kcmp_eq (show kcmp x.key x.enc y.key y.enc = 0 from by unfold GI.cmp at h h'; omega)
    by_cases hk : x.key = k ∧ x.enc = e
    · obtain ⟨rfl, rfl⟩ := hk
      rw [show lookW (x.add y :: mergeL xs ys) x.key x.enc = (x.add y).size from lookW_cons_eq (x.add y) _, lookW_cons_eq, e1, e2, lookW_cons_eq]
      exact wrap64_of (wrap64_i64 _)
    · rw [lookW_cons_ne _ (show ¬ ((x.add y).key = k ∧ (x.add y).enc = e) from hk), lookW_cons_ne _ hk, lookW_cons_ne _ (by rw [← e1, ← e2]; exact hk), ih hx.tail hy.tail]
  | case6 x xs y ys h h' h2 ih =>
    obtain ⟨e1, e2⟩ := kcmp_eq (show kcmp x.key x.enc y.key y.enc = 0 from by unfold GI.cmp at h h'; omega)
    by_cases hk : x.key = k ∧ x.enc = e
    · obtain ⟨rfl, rfl⟩ := hk
      have hz : (x.add y).size = 0 := by simpa using h2
      have i1 := ih hx.tail hy.tail
      rw [lookW_above hx.head, show lookW ys x.key x.enc = 0 from by rw [e1, e2]; exact lookW_above hy.head] at i1
      rw [i1, lookW_cons_eq, show lookW (y :: ys) x.key x.enc = y.size from by rw [e1, e2]; exact lookW_cons_eq _ _]
      exact (show wrap64 (0 + 0) = 0 by rw [Int.add_zero]; exact wrap64_of (by unfold i64; omega)).trans hz.symm
    · rw [lookW_cons_ne _ hk, lookW_cons_ne _ (by rw [← e1, ← e2]; exact hk), ih hx.tail hy.tail]
/-- Two rising lists that say the same are the same but for rows. -/
theorem rise_ext : ∀ {a b : List GI}, Rise a → Rise b → Nz a → Nz b → (∀ k e, lookW a k e = lookW b k e) → a.map (fun x => (x.key, x.enc, x.size)) = b.map (fun x => (x.key, x.enc, x.size))
  | [], [], _, _, _, _, _ => rfl
  | [], y :: b, _, _, _, hb, h => by
    have := h y.key y.enc
    rw [lookW_nil, lookW_cons_eq] at this
    exact absurd this.symm (hb y (by simp)).1
  | x :: a, [], _, _, ha, _, h => by
    have := h x.key x.enc
    rw [lookW_nil, lookW_cons_eq] at this
    exact absurd this (ha x (by simp)).1
  | x :: a, y :: b, h1, h2, ha, hb, h => by
    have h0 : x.cmp y = 0 := by
      rcases Int.lt_trichotomy (x.cmp y) 0 with hc | hc | hc
      · have := h x.key x.enc
        rw [lookW_cons_eq, lookW_above (h2.above hc)] at this
        exact absurd this (ha x (by simp)).1
      · exact hc
      · have := h y.key y.enc
        rw [lookW_cons_eq, lookW_above (h1.above ((gicmp.flip y x).2 hc))] at this
        exact absurd this.symm (hb y (by simp)).1
    obtain ⟨e1, e2⟩ := kcmp_eq h0
    have hs : x.size = y.size := by
      have := h x.key x.enc
      rw [lookW_cons_eq, e1, e2, lookW_cons_eq] at this
      exact this
    have ht : ∀ k e, lookW a k e = lookW b k e := fun k e => by
      by_cases hk : x.key = k ∧ x.enc = e
      · obtain ⟨rfl, rfl⟩ := hk
        rw [lookW_above h1.head, e1, e2, lookW_above h2.head]
      · have := h k e
        rw [lookW_cons_ne _ hk, lookW_cons_ne _ (by rw [← e1, ← e2]; exact hk)] at this
        exact this
    rw [List.map_cons, List.map_cons, rise_ext h1.tail h2.tail (fun u hu => ha u (by simp [hu])) (fun u hu => hb u (by simp [hu])) ht, e1, e2, hs]
/-- What a change of one item does to the number of rows. -/
def dl (a : List GI) (y : GI) : Int := if lookW a y.key y.enc = 0 then 1 else if wrap64 (lookW a y.key y.enc + y.size) = 0 then -1 else 0
def sumI {α : Type} (f : α → Int) : List α → Int
  | [] => 0
  | x :: xs => f x + sumI f xs
theorem sumI_congr {α : Type} {f g : α → Int} : ∀ {l : List α}, (∀ x ∈ l, f x = g x) → sumI f l = sumI g l
  | [], _ => rfl
  | x :: l, h => by rw [sumI, sumI, h x (by simp), sumI_congr fun y hy => h y (by simp [hy])]
theorem sumI_perm {α : Type} (f : α → Int) {l m : List α} (h : l.Perm m) : sumI f l = sumI f m := by
  induction h with
  | nil => rfl
  | cons x _ ih => rw [sumI, sumI, ih]
  | swap x y l => simp only [sumI]; omega
  | trans _ _ ih1 ih2 => rw [ih1, ih2]
theorem dl_skip {x y : GI} {a : List GI} (h : ¬ (x.key = y.key ∧ x.enc = y.enc)) : dl (x :: a) y = dl a y := by unfold dl; rw [lookW_cons_ne _ h]
theorem ne_of_lt_cmp {x y : GI} (h : x.cmp y < 0) : ¬ (x.key = y.key ∧ x.enc = y.enc) := fun ⟨h1, h2⟩ => by
  have := (kcmp_zero (k := x.key) (e := x.enc) (k' := y.key) (e' := y.enc)).2 ⟨h1, h2⟩
  unfold GI.cmp at h
  omega
theorem mergeL_count (a ys : List GI) (ha : Rise a) (hy : Rise ys) (na : Nz a) : ((mergeL a ys).length : Int) = a.length + sumI (dl a) ys := by
  fun_induction mergeL a ys with
  | case1 ys =>
    have : ∀ l : List GI, sumI (dl []) l = l.length := fun l => by
      induction l with
      | nil => rfl
      | cons x l ih => rw [sumI, ih]; simp [dl, lookW_nil]; omega
    rw [this]; simp
  | case2 xs h => simp [sumI]
  | case3 x xs y ys h ih =>
    rw [List.length_cons, List.length_cons]
    have h1 := ih ha.tail hy (fun u hu => na u (by simp [hu]))
    have h2 : sumI (dl (x :: xs)) (y :: ys) = sumI (dl xs) (y :: ys) := sumI_congr fun u hu => dl_skip (ne_of_lt_cmp (hy.above h u hu))
    rw [h2]
    push_cast
    omega
  | case4 x xs y ys h h' ih =>
    have h1 := ih ha hy.tail na
    have h2 : dl (x :: xs) y = 1 := by
      unfold dl
      rw [lookW_above (ha.above ((gicmp.flip y x).2 h')), if_pos rfl]
    rw [List.length_cons, sumI, h2]
    push_cast
    omega
  | case5 x xs y ys h h' h2 ih =>
    obtain ⟨e1, e2⟩ := kcmp_eq (show kcmp x.key x.enc y.key y.enc = 0 from by unfold GI.cmp at h h'; omega)
    have h1 := ih ha.tail hy.tail (fun u hu => na u (by simp [hu]))
    have h3 : dl (x :: xs) y = 0 := by
      unfold dl
      rw [← e1, ← e2, lookW_cons_eq, if_neg (na x (by simp)).1, if_neg (show ¬ wrap64 (x.size + y.size) = 0 from h2)]
    have h4 : sumI (dl (x :: xs)) ys = sumI (dl xs) ys := sumI_congr fun u hu => dl_skip (by rw [e1, e2]; exact ne_of_lt_cmp (hy.head u hu))
    rw [List.length_cons, List.length_cons, sumI, h3, h4]
    push_cast
    omega
  | case6 x xs y ys h h' h2 ih =>
    obtain ⟨e1, e2⟩ := kcmp_eq (show kcmp x.key x.enc y.key y.enc = 0 from by unfold GI.cmp at h h'; omega)
    have h1 := ih ha.tail hy.tail (fun u hu => na u (by simp [hu]))
    have hz : (x.add y).size = 0 := by simpa using h2
    have h3 : dl (x :: xs) y = -1 := by
      unfold dl
      rw [← e1, ← e2, lookW_cons_eq, if_neg (na x (by simp)).1, if_pos (show wrap64 (x.size + y.size) = 0 from hz)]
    have h4 : sumI (dl (x :: xs)) ys = sumI (dl xs) ys := sumI_congr fun u hu => dl_skip (by rw [e1, e2]; exact ne_of_lt_cmp (hy.head u hu))
    rw [List.length_cons, sumI, h3, h4]
    push_cast
    omega
theorem wrap64_add (a b : Int) : wrap64 (wrap64 a + b) = wrap64 (a + b) := by unfold wrap64; omega
theorem wrap64_add' (a b : Int) : wrap64 (a + wrap64 b) = wrap64 (a + b) := by unfold wrap64; omega
/-- What is asked of a list of batches. -/
def Fine (bs : List (List GI)) : Prop := ∀ z ∈ bs, Rise z ∧ Nz z ∧ z ≠ []
def lookS (bs : List (List GI)) (k e : ByteArray) : Int := (bs.map (lookW · k e)).foldl (· + ·) 0
theorem lookS_cons (z : List GI) (bs : List (List GI)) (k e : ByteArray) : lookS (z :: bs) k e = lookW z k e + lookS bs k e := by
  unfold lookS
  rw [List.map_cons, List.foldl_cons, foldl_add]
  omega
theorem lookS_app (l m : List (List GI)) (k e : ByteArray) : lookS (l ++ m) k e = lookS l k e + lookS m k e := by
  induction l with
  | nil => show lookS m k e = 0 + lookS m k e; omega
  | cons z l ih => rw [List.cons_append, lookS_cons, lookS_cons, ih]; omega
theorem weightL_S (bs : List (List GI)) (k e : ByteArray) : weightL bs k e = wrap64 (lookS bs k e) := rfl
theorem foldl_merge : ∀ (bs : List (List GI)) (a : List GI), Rise a → Nz a → (∀ z ∈ bs, Rise z ∧ Nz z) →
    Rise (bs.foldl mergeL a) ∧ Nz (bs.foldl mergeL a) ∧ ∀ k e, wrap64 (lookW (bs.foldl mergeL a) k e) = wrap64 (lookW a k e + lookS bs k e)
  | [], a, h1, h2, _ => ⟨h1, h2, fun k e => by show wrap64 (lookW a k e) = wrap64 (lookW a k e + 0); rw [Int.add_zero]⟩
  | z :: bs, a, h1, h2, h3 => by
    obtain ⟨r, n⟩ := h3 z (by simp)
    obtain ⟨i1, i2, i3⟩ := foldl_merge bs (mergeL a z) (mergeL_rise a z h1 r) (mergeL_nz a z h2 n) fun y hy => h3 y (by simp [hy])
    refine ⟨i1, i2, fun k e => ?_⟩
    rw [List.foldl_cons, i3, ← wrap64_add, mergeL_look a z h1 r, wrap64_add, lookS_cons, Int.add_assoc]
theorem allL_fine {bs : List (List GI)} (h : Fine bs) : Rise (allL bs) ∧ Nz (allL bs) ∧ ∀ k e, lookW (allL bs) k e = weightL bs k e := by
  obtain ⟨h1, h2, h3⟩ := foldl_merge bs [] List.Pairwise.nil (by intro x hx; cases hx) fun z hz => ⟨(h z hz).1, (h z hz).2.1⟩
  refine ⟨h1, h2, fun k e => ?_⟩
  have := h3 k e
  rw [lookW_nil, Int.zero_add] at this
  rw [weightL_S, ← this]
  exact (wrap64_of (lookW_i64 h2 k e)).symm
theorem joinL_fine {pre : List (List GI)} {x y : List GI} (h : Fine (pre ++ [x, y])) : Fine (joinL pre x y) ∧ ∀ k e, weightL (joinL pre x y) k e = weightL (pre ++ [x, y]) k e := by
  have hx := h x (by simp)
  have hy := h y (by simp)
  have hp : Fine pre := fun z hz => h z (by simp [hz])
  have hs : ∀ k e, lookS (pre ++ [x, y]) k e = lookS pre k e + (lookW x k e + lookW y k e) := fun k e => by
    rw [lookS_app, lookS_cons, lookS_cons]
    show _ + (_ + (_ + 0)) = _
    omega
  unfold joinL
  by_cases hm : mergeL x y = []
  · rw [if_pos hm]
    refine ⟨hp, fun k e => ?_⟩
    have := mergeL_look x y hx.1 hy.1 k e
    rw [hm, lookW_nil] at this
    rw [weightL_S, weightL_S, hs, ← wrap64_add', ← this, show wrap64 0 = 0 from wrap64_of (by unfold i64; omega), Int.add_zero]
  · rw [if_neg hm]
    refine ⟨fun z hz => ?_, fun k e => ?_⟩
    · rcases List.mem_append.1 hz with hz | hz
      · exact hp z hz
      · rw [List.mem_singleton.1 hz]
        exact ⟨mergeL_rise x y hx.1 hy.1, mergeL_nz x y hx.2.1 hy.2.1, hm⟩
    · have := mergeL_look x y hx.1 hy.1 k e
      rw [weightL_S, weightL_S, hs, ← wrap64_add', ← this, wrap64_add', lookS_app, lookS_cons]
      show wrap64 (_ + (_ + 0)) = _
      rw [Int.add_zero]
theorem Joins.fine {bs bs' : List (List GI)} (h : Joins bs bs') (hf : Fine bs) : Fine bs' ∧ ∀ k e, weightL bs' k e = weightL bs k e := by
  induction h with
  | refl => exact ⟨hf, fun _ _ => rfl⟩
  | step pre x y _ ih =>
    obtain ⟨h1, h2⟩ := joinL_fine ih.1
    exact ⟨h1, fun k e => (h2 k e).trans (ih.2 k e)⟩
theorem Joins.row {P : ByteArray → ByteArray → List GV → Prop} {bs bs' : List (List GI)} (h : Joins bs bs') (hf : ∀ z ∈ bs, ∀ u ∈ z, P u.key u.enc u.row) : ∀ z ∈ bs', ∀ u ∈ z, P u.key u.enc u.row := by
  induction h with
  | refl => exact hf
  | step pre x y _ ih =>
    unfold joinL
    intro z hz
    have hx := ih x (by simp)
    have hy := ih y (by simp)
    split at hz
    · exact ih z (by simp [hz])
    · rcases List.mem_append.1 hz with hz | hz
      · exact ih z (by simp [hz])
      · rw [List.mem_singleton.1 hz]
        exact mergeL_all x y hx hy
/-- How many rows: the same after batches are joined. -/
theorem Joins.count {bs bs' : List (List GI)} (h : Joins bs bs') (hf : Fine bs) : (allL bs').length = (allL bs).length := by
  obtain ⟨h1, h2⟩ := h.fine hf
  obtain ⟨a1, a2, a3⟩ := allL_fine h1
  obtain ⟨b1, b2, b3⟩ := allL_fine hf
  have := rise_ext a1 b1 a2 b2 fun k e => by rw [a3, b3, h2]
  simpa using congrArg List.length this
theorem liveL_sum {bs : List (List GI)} (hf : Fine bs) : ∀ {xs : List GI} {l l' : Int}, liveL bs l xs = some l' → l' = l + sumI (dl (allL bs)) xs
  | [], l, l', h => by
    simp only [liveL, Option.some.injEq] at h
    rw [← h, sumI, Int.add_zero]
  | x :: xs, l, l', h => by
    unfold liveL at h
    split at h
    · cases h
    · rw [liveL_sum hf h, sumI]
      have : stepN l (weightL bs x.key x.enc) x.size = l + dl (allL bs) x := by
        unfold stepN dl
        rw [(allL_fine hf).2.2]
        repeat' split
        all_goals omega
      rw [this]
      omega
/-- The number of rows behind a change. -/
theorem put_count {bs : List (List GI)} (hf : Fine bs) {xs ys : List GI} (hp : ys.Perm xs) (hr : Rise ys) {l l' : Int} (hl : l = (allL bs).length) (h : liveL bs l xs = some l') : l' = (allL (bs ++ [ys])).length := by
  have h1 := liveL_sum hf h
  have h2 : allL (bs ++ [ys]) = mergeL (allL bs) ys := by unfold allL; rw [List.foldl_append]; rfl
  rw [h2, mergeL_count _ _ (allL_fine hf).1 hr (allL_fine hf).2.1, sumI_perm _ hp, h1, hl]
end Go.Proofs.YtflckpfpgpfjlaaGreatDoor
end
section
namespace Go.Proofs.YtflckpfpgpfjlaaGreatDoor
open Go.RowKit Go.Sort
attribute [local go_sem ↓] eqVal neVal
def GV.same (x y : GV) : Bool := eqGV x.k x.n x.f x.t y.k y.n y.f y.t
theorem bytes_eq {t u : ByteArray} (h : t.toList = u.toList) : t = u := by
  rw [ByteArray.toList_eq, ByteArray.toList_eq] at h
  cases t with
  | mk a => cases u with
    | mk b => exact congrArg ByteArray.mk (Array.toList_inj.1 h)
theorem GV.same_eq {x y : GV} : x.same y = true ↔ x = y := by
  unfold GV.same eqGV
  cases x with
  | mk a b c d => cases y with
    | mk a' b' c' d' =>
      simp only [Bool.and_eq_true, beq_iff_eq, and_true, GV.mk.injEq]
      exact ⟨fun ⟨h1, h2, h3, h4⟩ => ⟨h1, h2, h3, bytes_eq h4⟩, fun ⟨h1, h2, h3, h4⟩ => ⟨h1, h2, h3, by rw [h4]⟩⟩
/-- All the same, one by one. -/
def allS {α : Type} (f : α → α → Bool) : List α → List α → Bool
  | x :: r, y :: s => f x y && allS f r s
  | _, _ => true
theorem allS_step {α : Type} (f : α → α → Bool) {r s : List α} {k : Nat} {x y : α} (hx : r[k]? = some x) (hy : s[k]? = some y) : allS f (r.drop k) (s.drop k) = (f x y && allS f (r.drop (k + 1)) (s.drop (k + 1))) := by
  obtain ⟨h1, rfl⟩ := List.getElem?_eq_some_iff.1 hx
  obtain ⟨h2, rfl⟩ := List.getElem?_eq_some_iff.1 hy
  rw [List.drop_eq_getElem_cons h1, List.drop_eq_getElem_cons h2, allS]
theorem allS_eq {α : Type} {f : α → α → Bool} (hf : ∀ x y, f x y = true ↔ x = y) : ∀ {r s : List α}, r.length = s.length → (allS f r s = true ↔ r = s)
  | [], [], _ => by simp [allS]
  | [], _ :: _, h => by simp at h
  | _ :: _, [], h => by simp at h
  | x :: r, y :: s, h => by
    rw [allS, Bool.and_eq_true, hf, allS_eq hf (by simpa using h), List.cons.injEq]
def sameR (r s : List GV) : Bool := decide (r.length = s.length) && allS GV.same r s
theorem sameR_eq (r s : List GV) : sameR r s = true ↔ r = s := by
  unfold sameR
  rw [Bool.and_eq_true, decide_eq_true_eq]
  exact ⟨fun ⟨h1, h2⟩ => (allS_eq (fun _ _ => GV.same_eq) h1).1 h2, fun h => ⟨by rw [h], (allS_eq (fun _ _ => GV.same_eq) (by rw [h])).2 h⟩⟩
def GE.same (x y : GE) : Bool := x.w == y.w && sameR x.row y.row
theorem GE.same_eq (x y : GE) : x.same y = true ↔ x = y := by
  unfold GE.same
  cases x; cases y
  rw [Bool.and_eq_true, beq_iff_eq, sameR_eq]
  simp only [GE.mk.injEq]
  exact ⟨fun ⟨a, b⟩ => ⟨b, a⟩, fun ⟨a, b⟩ => ⟨b, a⟩⟩
def sameZ (r s : List GE) : Bool := decide (r.length = s.length) && allS GE.same r s
theorem sameZ_eq (r s : List GE) : sameZ r s = true ↔ r = s := by
  unfold sameZ
  rw [Bool.and_eq_true, decide_eq_true_eq]
  exact ⟨fun ⟨h1, h2⟩ => (allS_eq GE.same_eq h1).1 h2, fun h => ⟨by rw [h], (allS_eq GE.same_eq (by rw [h])).2 h⟩⟩
theorem same2_any (v u : Value) (r s : List GV) (w : World) (hr : RdV w AnyB v r) (hs : RdV w AnyB u s) :
    Calls Tryz.prog 39 #[v, u] w fun e w' => e = .returned (.bool (sameR r s)) ∧ ∃ m, w' = w.drewN m := by
  obtain ⟨A, c, rfl, hc⟩ := hr.shape
  obtain ⟨B, d, rfl, hd⟩ := hs.shape
  have hl := hr.len
  have HR := As.mk hr
  have HS := As.mk hs
  have HV : As (sameR r s = (decide (r.length = s.length) && allS GV.same r s)) := ⟨rfl⟩
  clear hr hs
  generalize sameR r s = q at *
  by_cases hls : r.length = s.length
  · have hlb : ((r.length : Int) != (s.length : Int)) = false := by rw [hls]; simp
    have HV2 : As (allS GV.same (r.drop 0) (s.drop 0) = q) := ⟨by rw [HV.out, decide_eq_true hls]; simp⟩
    have HLS := As.mk hls
    clear HV hls
    go_enter Tryz.func39, Tryz.ntmps39
    go_wp2_with fail
    go_loopg [5] r.length (fun g s5 wr => ∃ (k m : Nat), k ≤ r.length ∧ r.length - k ≤ g ∧ s5 = .int .i64 k ∧ wr = w.drewN m ∧ As (allS GV.same (r.drop k) (s.drop k) = q))
    case atStart => exact ⟨0, 0, by omega, by omega, by go_num, rfl, HV2⟩
    case round =>
      obtain ⟨k, m, hk, hg, rfl, rfl, HQ⟩ := hrel
      by_cases hlt : k < r.length
      · have hltz : (k : Int) < (r.length : Int) := by omega
        have hlts : (k : Int) < (s.length : Int) := by have := HLS.out; omega
        obtain ⟨x, hx⟩ : ∃ x, r[k]? = some x := ⟨_, List.getElem?_eq_getElem hlt⟩
        obtain ⟨y, hy⟩ : ∃ y, s[k]? = some y := ⟨_, List.getElem?_eq_getElem (by have := HLS.out; omega)⟩
        obtain ⟨b, o, c', hv, _, _, e0, e1, e2, e3⟩ := HR.out.val hx
        obtain ⟨b2, o2, c2, hv2, _, _, g0, g1, g2, g3⟩ := HS.out.val hy
        injection hv with hA _ hcc
        subst hA
        injection hv2 with hA _ hcc2
        subst hA
        have HST : As (q = (x.same y && allS GV.same (r.drop (k + 1)) (s.drop (k + 1)))) := ⟨by rw [← HQ.out, allS_step GV.same hx hy]⟩
        have HXY : As (x.same y = eqGV x.k x.n x.f x.t y.k y.n y.f y.t) := ⟨rfl⟩
        clear hx hy hcc hcc2
        generalize x.same y = xy at *
        obtain ⟨xk, xn, xf, xt⟩ := x
        obtain ⟨yk, yn, yf, yt⟩ := y
        simp only at *
        cases hz : eqGV xk xn xf xt yk yn yf yt
        · have hq : q = false := by rw [HST.out, HXY.out, hz]; rfl
          subst hq
          go_wp2_with fail
          go_quiet (fail)
          go_wp2
          go_ret
          exact ⟨rfl, _, World.drewN_drewN _ _ _⟩
        · have HQ2 : As (allS GV.same (r.drop (k + 1)) (s.drop (k + 1)) = q) := ⟨by rw [HST.out, HXY.out, hz, Bool.true_and]⟩
          go_wp2_with fail
          go_quiet (fail)
          go_wp2
          go_roundg (r.length - (k + 1))
          case measure => omega
          case rel => exact ⟨k + 1, _, by omega, by omega, by go_num, rfl, HQ2⟩
      · have hltz : ¬ (k : Int) < (r.length : Int) := by omega
        go_wp2
        go_ret
        exact ⟨ret_bool (by rw [← HQ.out, List.drop_eq_nil_of_le (by omega), List.drop_eq_nil_of_le (by have := HLS.out; omega)]; rfl), _, rfl⟩
  · have hlb : ((r.length : Int) != (s.length : Int)) = true := by simp; omega
    have hq : q = false := by rw [HV.out, decide_eq_false hls]; rfl
    subst hq
    go_enter Tryz.func39, Tryz.ntmps39
    go_wp2
    go_ret
    exact ⟨rfl, 0, rfl⟩
theorem same3_any (v u : Value) (r s : List GE) (w : World) (hr : RdZ w AnyB v r) (hs : RdZ w AnyB u s) :
    Calls Tryz.prog 15 #[v, u] w fun e w' => e = .returned (.bool (sameZ r s)) ∧ ∃ m, w' = w.drewN m := by
  obtain ⟨A, c, rfl, hc⟩ := hr.shape
  obtain ⟨B, d, rfl, hd⟩ := hs.shape
  have hl := hr.len
  have HR := As.mk hr
  have HS := As.mk hs
  have HV : As (sameZ r s = (decide (r.length = s.length) && allS GE.same r s)) := ⟨rfl⟩
  clear hr hs
  generalize sameZ r s = q at *
  by_cases hls : r.length = s.length
  · have hlb : ((r.length : Int) != (s.length : Int)) = false := by rw [hls]; simp
    have HV2 : As (allS GE.same (r.drop 0) (s.drop 0) = q) := ⟨by rw [HV.out, decide_eq_true hls]; simp⟩
    have HLS := As.mk hls
    clear HV hls
    go_enter Tryz.func15, Tryz.ntmps15
    go_wp2_with fail
    go_loopg [5] r.length (fun g s5 wr => ∃ (k m : Nat), k ≤ r.length ∧ r.length - k ≤ g ∧ s5 = .int .i64 k ∧ wr = w.drewN m ∧ As (allS GE.same (r.drop k) (s.drop k) = q))
    case atStart => exact ⟨0, 0, by omega, by omega, by go_num, rfl, HV2⟩
    case round =>
      obtain ⟨k, m, hk, hg, rfl, rfl, HQ⟩ := hrel
      by_cases hlt : k < r.length
      · have hltz : (k : Int) < (r.length : Int) := by omega
        have hlts : (k : Int) < (s.length : Int) := by have := HLS.out; omega
        obtain ⟨x, hx⟩ : ∃ x, r[k]? = some x := ⟨_, List.getElem?_eq_getElem hlt⟩
        obtain ⟨y, hy⟩ : ∃ y, s[k]? = some y := ⟨_, List.getElem?_eq_getElem (by have := HLS.out; omega)⟩
        obtain ⟨b, o, c', A1, d1, hv, _, _, hxr, e0, e1⟩ := HR.out.ent hx
        obtain ⟨b2, o2, c2, A2, d2, hv2, _, _, hyr, g0, g1⟩ := HS.out.ent hy
        injection hv with hA _ hcc
        subst hA
        injection hv2 with hA _ hcc2
        subst hA
        have HST : As (q = (x.same y && allS GE.same (r.drop (k + 1)) (s.drop (k + 1)))) := ⟨by rw [← HQ.out, allS_step GE.same hx hy]⟩
        have HXY : As (x.same y = (x.w == y.w && sameR x.row y.row)) := ⟨rfl⟩
        have h2 := fun n => same2_any _ _ x.row y.row (w.drewN n) (hxr.ext (Ext.drewN (Ext.refl w) n).below) (hyr.ext (Ext.drewN (Ext.refl w) n).below)
        clear hx hy hcc hcc2 hxr hyr
        generalize x.same y = xy at *
        obtain ⟨xr, xw⟩ := x
        obtain ⟨yr, yw⟩ := y
        simp only at *
        generalize sameR xr yr = sr at *
        by_cases hwe : xw = yw
        · subst hwe
          have hwb : (xw != xw) = false := by simp
          cases sr
          · have hq : q = false := by rw [HST.out, HXY.out]; simp
            subst hq
            go_wp2_with fail
            go_quiet ((go_at_call 39; exact (h2 _).mono fun _ _ ⟨he, n, hw⟩ => ⟨he, _, hw.trans ((World.drewN_drewN _ _ _).trans (congrArg (World.drewN w) (Nat.add_assoc _ _ _)))⟩))
            go_wp2
            go_ret
            exact ⟨rfl, _, World.drewN_drewN _ _ _⟩
          · have HQ2 : As (allS GE.same (r.drop (k + 1)) (s.drop (k + 1)) = q) := ⟨by rw [HST.out, HXY.out]; simp⟩
            go_wp2_with fail
            go_quiet ((go_at_call 39; exact (h2 _).mono fun _ _ ⟨he, n, hw⟩ => ⟨he, _, hw.trans ((World.drewN_drewN _ _ _).trans (congrArg (World.drewN w) (Nat.add_assoc _ _ _)))⟩))
            go_wp2
            go_roundg (r.length - (k + 1))
            case measure => omega
            case rel => exact ⟨k + 1, _, by omega, by omega, by go_num, rfl, HQ2⟩
        · have hwb : (xw != yw) = true := by simpa using hwe
          have hq : q = false := by rw [HST.out, HXY.out, beq_eq_false_iff_ne.2 hwe]; rfl
          subst hq
          clear hwe
          go_wp2_with fail
          go_quiet (fail)
          go_wp2
          go_ret
          exact ⟨rfl, _, World.drewN_drewN _ _ _⟩
      · have hltz : ¬ (k : Int) < (r.length : Int) := by omega
        go_wp2
        go_ret
        exact ⟨ret_bool (by rw [← HQ.out, List.drop_eq_nil_of_le (by omega), List.drop_eq_nil_of_le (by have := HLS.out; omega)]; rfl), _, rfl⟩
  · have hlb : ((r.length : Int) != (s.length : Int)) = true := by simp; omega
    have hq : q = false := by rw [HV.out, decide_eq_false hls]; rfl
    subst hq
    go_enter Tryz.func15, Tryz.ntmps15
    go_wp2
    go_ret
    exact ⟨rfl, 0, rfl⟩
end Go.Proofs.YtflckpfpgpfjlaaGreatDoor
end
section
namespace Go.Proofs.YtflckpfpgpfjlaaGreatDoor
open Go.RowKit Go.Sort
theorem wordL_inj {n m : Int} (hn : 0 ≤ n ∧ n < 18446744073709551616) (hm : 0 ≤ m ∧ m < 18446744073709551616) (h : wordL n = wordL m) : n = m := by
  have key : ∀ k, wbyte n k = wbyte m k → n / 2 ^ (56 - 8 * k) % 256 = m / 2 ^ (56 - 8 * k) % 256 := fun k h => by rw [← wbyte_int, ← wbyte_int, h]
  simp only [wordL, List.cons.injEq, and_true] at h
  obtain ⟨h0, h1, h2, h3, h4, h5, h6, h7⟩ := h
  have a0 := key 0 h0
  have a1 := key 1 h1
  have a2 := key 2 h2
  have a3 := key 3 h3
  have a4 := key 4 h4
  have a5 := key 5 h5
  have a6 := key 6 h6
  have a7 := key 7 h7
  simp only [Nat.mul_zero, Nat.sub_zero, Nat.mul_one, Nat.reduceMul, Nat.reduceSub, Int.reducePow, Int.pow_zero, Int.ediv_one] at a0 a1 a2 a3 a4 a5 a6 a7
  clear key h0 h1 h2 h3 h4 h5 h6 h7
  omega
theorem xor_cancel {a b c : Nat} (h : a ^^^ c = b ^^^ c) : a = b := by
  have := congrArg (· ^^^ c) h
  simpa [Nat.xor_assoc] using this
theorem bit63 (i : Nat) : (9223372036854775808 : Nat).testBit i = decide (63 = i) := by
  rw [show (9223372036854775808 : Nat) = 2 ^ 63 by decide, Nat.testBit_two_pow]
theorem nflip_inj {n m : Int} (hn : i64 n) (hm : i64 m) (h : nflip n = nflip m) : n = m := by
  rw [nflip_nat, nflip_nat] at h
  have h := xor_cancel (Int.ofNat.inj h)
  unfold i64 at hn hm
  omega
theorem and_bit (a : Nat) : a &&& 9223372036854775808 ≠ 0 ↔ a.testBit 63 = true := by
  refine ⟨fun h => ?_, fun h h0 => ?_⟩
  · cases hh : a.testBit 63
    · refine absurd (Nat.eq_of_testBit_eq fun i => ?_) h
      rw [Nat.testBit_and, bit63, Nat.zero_testBit]
      by_cases hi : 63 = i
      · subst hi; simp [hh]
      · simp [hi]
    · rfl
  · have := congrArg (Nat.testBit · 63) h0
    simp only [Nat.testBit_and, bit63, h, Nat.zero_testBit] at this
    simp at this
theorem fturned_inj {f g : Int} (hf : u64 f) (hg : u64 g) (h : fturned f = fturned g) : f = g := by
  rw [fturned_nat hf, fturned_nat hg] at h
  have h := Int.ofNat.inj h
  obtain ⟨f0, f1⟩ := hf
  obtain ⟨g0, g1⟩ := hg
  obtain ⟨a, rfl⟩ := Int.eq_ofNat_of_zero_le f0
  obtain ⟨b, rfl⟩ := Int.eq_ofNat_of_zero_le g0
  simp only [Int.toNat_natCast] at h
  have c1 : ∀ i, (9223372036854775808 : Nat).testBit i = decide (63 = i) := fun i => by
    rw [show (9223372036854775808 : Nat) = 2 ^ 63 by decide, Nat.testBit_two_pow]
  have c2 : (18446744073709551615 : Nat).testBit 63 = true := by decide
  by_cases ha : a &&& 9223372036854775808 ≠ 0 <;> by_cases hb : b &&& 9223372036854775808 ≠ 0
  · rw [if_pos ha, if_pos hb] at h
    rw [Nat.xor_comm _ a, Nat.xor_comm _ b] at h
    rw [xor_cancel h]
  · rw [if_pos ha, if_neg hb] at h
    have := congrArg (Nat.testBit · 63) h
    simp only [Nat.testBit_xor, Nat.testBit_or, c2, c1, (and_bit a).1 ha] at this
    simp at this
  · rw [if_neg ha, if_pos hb] at h
    have := congrArg (Nat.testBit · 63) h
    simp only [Nat.testBit_xor, Nat.testBit_or, c2, c1, (and_bit b).1 hb] at this
    simp at this
  · rw [if_neg ha, if_neg hb] at h
    have ha' : a.testBit 63 = false := by
      cases hh : a.testBit 63
      · rfl
      · exact absurd ((and_bit a).2 hh) ha
    have hb' : b.testBit 63 = false := by
      cases hh : b.testBit 63
      · rfl
      · exact absurd ((and_bit b).2 hh) hb
    congr 1
    apply Nat.eq_of_testBit_eq
    intro i
    by_cases hi : 63 = i
    · subst hi; rw [ha', hb']
    · have := congrArg (Nat.testBit · i) h
      simpa only [Nat.testBit_or, c1, hi, decide_false, Bool.or_false] using this
theorem vsound_n {x : GV} (h : vsound x = true) (hk : x.k = 0) : x.n = 0 := by
  unfold vsound eqGV at h
  simp only [hk] at h
  simp at h
  exact h.1
theorem kbyte_inj {a b : Int} (ha : 0 ≤ a ∧ a < 256) (hb : 0 ≤ b ∧ b < 256) (h : kbyte a = kbyte b) : a = b := by
  rw [← kbyte_int ha.1 ha.2, ← kbyte_int hb.1 hb.2, h]
theorem app8 {n m : Int} {R S : List UInt8} (h : wordL n ++ R = wordL m ++ S) : wordL n = wordL m ∧ R = S := List.append_inj h rfl
theorem encV_inj {x y : GV} (ox : x.Ok) (oy : y.Ok) (hx : vsound x = true) (hy : vsound y = true) {R S : List UInt8} (h : encV x ++ R = encV y ++ S) : x = y ∧ R = S := by
  obtain ⟨x1, x2, x3, x4⟩ := vsound_parts hx
  obtain ⟨y1, y2, y3, y4⟩ := vsound_parts hy
  have kx := vsound_kind hx
  have ky := vsound_kind hy
  have nx := vsound_n hx
  have ny := vsound_n hy
  unfold encV at h
  rw [List.cons_append, List.cons_append, List.cons.injEq] at h
  obtain ⟨hk, h⟩ := h
  have hk := kbyte_inj (by omega) (by omega) hk
  obtain ⟨a, b, c, d⟩ := x
  obtain ⟨a', b', c', d'⟩ := y
  simp only at *
  subst hk
  rcases kx with rfl | rfl | rfl | rfl | ⟨rfl, _⟩
  · simp at h
    rw [nx rfl, ny rfl, x2 (by decide), y2 (by decide), x3 (by decide), y3 (by decide)]
    exact ⟨rfl, h⟩
  · simp only [true_or, if_true] at h
    obtain ⟨h1, h2⟩ := app8 h
    have e := nflip_inj (n := b) (m := b') ox.n oy.n (wordL_inj (nflip_range b) (nflip_range b') h1)
    rw [e, x2 (by decide), y2 (by decide), x3 (by decide), y3 (by decide)]
    exact ⟨rfl, h2⟩
  · simp only [or_true, if_true] at h
    obtain ⟨h1, h2⟩ := app8 h
    have e := nflip_inj (n := b) (m := b') ox.n oy.n (wordL_inj (nflip_range b) (nflip_range b') h1)
    rw [e, x2 (by decide), y2 (by decide), x3 (by decide), y3 (by decide)]
    exact ⟨rfl, h2⟩
  · rw [if_neg (by decide), if_pos rfl] at h
    rw [if_neg (by decide), if_pos rfl] at h
    obtain ⟨h1, h2⟩ := app8 h
    have e := fturned_inj (f := c) (g := c') ox.f oy.f (wordL_inj (fturned_range ox.f) (fturned_range oy.f) h1)
    rw [e, x3 (by decide), y3 (by decide), x4 (.inl rfl), y4 (.inl rfl)]
    exact ⟨rfl, h2⟩
  · rw [if_neg (by decide), if_neg (by decide), if_pos rfl] at h
    rw [if_neg (by decide), if_neg (by decide), if_pos rfl] at h
    rw [List.append_assoc, List.append_assoc] at h
    obtain ⟨h1, h2⟩ := esc_inj h
    have hd : d = d' := by
      cases d with
      | mk u => cases d' with
        | mk u' => exact congrArg ByteArray.mk (Array.toList_inj.1 h1)
    rw [hd, x4 (.inr rfl), y4 (.inr rfl), x2 (by decide), y2 (by decide)]
    exact ⟨rfl, h2⟩
theorem encV_ne (x : GV) : encV x ≠ [] := by unfold encV; simp
theorem encR_inj : ∀ {r s : List GV}, (∀ x ∈ r, x.Ok) → (∀ x ∈ s, x.Ok) → (∀ x ∈ r, vsound x = true) → (∀ x ∈ s, vsound x = true) → encR r = encR s → r = s
  | [], [], _, _, _, _, _ => rfl
  | [], y :: s, _, _, _, _, h => by
    simp only [encR] at h
    exact absurd (List.append_eq_nil_iff.1 h.symm).1 (encV_ne y)
  | x :: r, [], _, _, _, _, h => by
    simp only [encR] at h
    exact absurd (List.append_eq_nil_iff.1 h).1 (encV_ne x)
  | x :: r, y :: s, o1, o2, h1, h2, h => by
    simp only [encR] at h
    obtain ⟨e1, e2⟩ := encV_inj (o1 x (by simp)) (o2 y (by simp)) (h1 x (by simp)) (h2 y (by simp)) h
    rw [e1, encR_inj (fun u hu => o1 u (by simp [hu])) (fun u hu => o2 u (by simp [hu])) (fun u hu => h1 u (by simp [hu])) (fun u hu => h2 u (by simp [hu])) e2]
/-- A row that is sound, of values of the machine. -/
def RowOk (r : List GV) : Prop := rsound r = true ∧ ∀ x ∈ r, x.Ok
theorem encB_inj {r s : List GV} (hr : RowOk r) (hs : RowOk s) (h : encB r = encB s) : r = s := by
  unfold encB at h
  rw [if_pos hr.1, if_pos hs.1] at h
  injection h with h
  exact encR_inj hr.2 hs.2 (rsound_at hr.1).2 (rsound_at hs.1).2 (by simpa using congrArg Array.toList h)
end Go.Proofs.YtflckpfpgpfjlaaGreatDoor
end
section
namespace Go.Proofs.YtflckpfpgpfjlaaGreatDoor
open Go.RowKit Go.Sort
/-- An item's key, bytes and row belong together. -/
def IOk (cols : List Int) (k e : ByteArray) (r : List GV) : Prop := RowOk r ∧ e = encB r ∧ ∃ key, pick r cols = some key ∧ k = encB key
structure Inv (S : GS) : Prop where
  fine : Fine S.bs
  row : ∀ z ∈ S.bs, ∀ u ∈ z, IOk S.cols u.key u.enc u.row
  live : S.live = (allL S.bs).length
  held : (heldL S.bs : Int) ≤ 2 * S.live + 16
theorem Inv.new (cols : List Int) : Inv ⟨cols, [], 0⟩ where
  fine := fun z hz => by cases hz
  row := fun z hz => by cases hz
  live := rfl
  held := by simp [heldL]
theorem Fine.nums {bs : List (List GI)} (h : Fine bs) : bs.length ≤ heldL bs := by
  induction bs with
  | nil => exact Nat.le_refl _
  | cons z bs ih =>
    have h1 := List.length_pos_iff.2 (h z (by simp)).2.2
    have h2 := ih fun y hy => h y (by simp [hy])
    simp only [List.length_cons, heldL]
    omega
theorem Fine.zero {bs : List (List GI)} (h : Fine bs) : heldL bs = 0 ↔ bs = [] := by
  refine ⟨fun h0 => ?_, fun h0 => by rw [h0]; rfl⟩
  have := h.nums
  exact List.eq_nil_of_length_eq_zero (by omega)
theorem held_one {bs : List (List GI)} (h : bs.length ≤ 1) : heldL bs = (allL bs).length := by
  match bs, h with
  | [], _ => rfl
  | [z], _ => simp [heldL, allL, mergeL]
/-- Every entry of a sound multiset, and its order. -/
theorem zsound0_parts : ∀ {z : List GE} {p : Option GE}, zsound0 p z = true → (∀ y, p = some y → rsound y.row = true) →
    (∀ x ∈ z, x.w ≠ 0 ∧ fair x.w = true ∧ rsound x.row = true) ∧ (z.Pairwise fun x y => rlex x.row y.row < 0) ∧ (∀ y, p = some y → ∀ x ∈ z, rlex y.row x.row < 0)
  | [], p, _, _ => ⟨by simp, List.Pairwise.nil, by simp⟩
  | x :: z, p, h, hp => by
    rw [zsound0, Bool.and_eq_true] at h
    obtain ⟨h1, h2⟩ := h
    unfold entOk at h1
    simp only [Bool.and_eq_true, Bool.not_eq_true', beq_eq_false_iff_ne] at h1
    obtain ⟨⟨⟨a1, a2⟩, a3⟩, a4⟩ := h1
    obtain ⟨b1, b2, b3⟩ := zsound0_parts h2 (fun y hy => by rw [← Option.some.inj hy]; exact a3)
    have b3 := b3 x rfl
    refine ⟨fun y hy => ?_, List.pairwise_cons.2 ⟨b3, b2⟩, fun y hy u hu => ?_⟩
    · rcases List.mem_cons.1 hy with rfl | hy
      · exact ⟨a1, a2, a3⟩
      · exact b1 y hy
    · subst hy
      have a5 : rlex y.row x.row < 0 := by
        have := of_decide_eq_true a4
        rwa [rcmp_lex (hp y rfl) a3] at this
      rcases List.mem_cons.1 hu with rfl | hu
      · exact a5
      · exact rlex_cmp.lt_trans a5 (b3 u hu)
theorem zsound_parts {z : List GE} (h : zsound z = true) : (∀ x ∈ z, x.w ≠ 0 ∧ fair x.w = true ∧ rsound x.row = true) ∧ (z.Pairwise fun x y => rlex x.row y.row < 0) :=
  let ⟨h1, h2, _⟩ := zsound0_parts (p := none) h (fun _ h => by cases h); ⟨h1, h2⟩
theorem itemG_some {cols : List Int} {x : GE} {u : GI} (h : itemG cols x = some u) : ∃ key, pick x.row cols = some key ∧ u = ⟨encB key, encB x.row, x.row, x.w⟩ := by
  unfold itemG at h
  split at h
  · cases h
  · next key hk => exact ⟨key, hk, (Option.some.inj h).symm⟩
theorem itemsL_parts {cols : List Int} : ∀ {z : List GE} {xs : List GI}, itemsL cols z = some xs → (∀ u ∈ xs, ∃ x ∈ z, itemG cols x = some u) ∧ xs.map GI.row = z.map GE.row
  | [], xs, h => by
    simp only [itemsL, Option.some.injEq] at h
    subst h
    exact ⟨by simp, rfl⟩
  | x :: z, xs, h => by
    rw [itemsL] at h
    split at h
    · cases h
    · next y hy =>
      obtain ⟨ys, h1, rfl⟩ := Option.map_eq_some_iff.1 h
      obtain ⟨h2, h3⟩ := itemsL_parts h1
      refine ⟨fun u hu => ?_, ?_⟩
      · rcases List.mem_cons.1 hu with rfl | hu
        · exact ⟨x, by simp, hy⟩
        · obtain ⟨w, hw, hh⟩ := h2 u hu
          exact ⟨w, by simp [hw], hh⟩
      · obtain ⟨key, _, rfl⟩ := itemG_some hy
        rw [List.map_cons, List.map_cons, h3]
theorem fair_i64 {w : Int} (h : fair w = true) : i64 w := by
  unfold fair at h
  simp only [Bool.and_eq_true, decide_eq_true_eq] at h
  unfold i64
  omega
/-- The items of a sound change: well made, and no two alike. -/
theorem items_ok {cols : List Int} {z : List GE} {xs : List GI} (hz : zsound z = true) (ho : ∀ x ∈ z, ∀ v ∈ x.row, v.Ok) (h : itemsL cols z = some xs) :
    (∀ u ∈ xs, IOk cols u.key u.enc u.row) ∧ Nz xs ∧ xs.Pairwise fun u v => u.cmp v ≠ 0 := by
  obtain ⟨h1, h2⟩ := zsound_parts hz
  obtain ⟨h3, h4⟩ := itemsL_parts h
  have hi : ∀ u ∈ xs, IOk cols u.key u.enc u.row := fun u hu => by
    obtain ⟨x, hx, hg⟩ := h3 u hu
    obtain ⟨key, hk, rfl⟩ := itemG_some hg
    exact ⟨⟨(h1 x hx).2.2, ho x hx⟩, rfl, key, hk, rfl⟩
  refine ⟨hi, fun u hu => ?_, ?_⟩
  · obtain ⟨x, hx, hg⟩ := h3 u hu
    obtain ⟨key, hk, rfl⟩ := itemG_some hg
    exact ⟨(h1 x hx).1, fair_i64 (h1 x hx).2.1⟩
  · have h5 : (z.map GE.row).Pairwise fun a b => rlex a b < 0 := List.pairwise_map.2 h2
    rw [← h4, List.pairwise_map] at h5
    refine h5.imp_of_mem fun {u v} hu hv h => ?_
    intro h0
    have e2 := (kcmp_eq h0).2
    rw [(hi u hu).2.1, (hi v hv).2.1] at e2
    rw [encB_inj (hi u hu).1 (hi v hv).1 e2, rlex_cmp.refl] at h
    omega
theorem perm_rise {xs ys : List GI} (hp : ys.Perm xs) (hn : xs.Pairwise fun u v => u.cmp v ≠ 0) (hs : ys.Pairwise fun x y => ¬ y.cmp x < 0) : Rise ys :=
  rise_of_sorted hs ((hp.pairwise_iff (fun {u v} h h0 => h ((gicmp.eqv u v).2 h0))).2 hn)
theorem Joins.inv {cols : List Int} {bs bs' : List (List GI)} {live : Int} (h : Joins bs bs') (hf : Fine bs) (hr : ∀ z ∈ bs, ∀ u ∈ z, IOk cols u.key u.enc u.row) (hl : live = (allL bs).length) (hh : bs'.length ≤ 1 ∨ (heldL bs' : Int) ≤ 2 * live + 16) : Inv ⟨cols, bs', live⟩ where
  fine := (h.fine hf).1
  row := h.row hr
  live := by rw [hl, ← h.count hf]
  held := by
    rcases hh with hh | hh
    · have e1 := held_one hh
      have e2 := h.count hf
      simp only
      omega
    · exact hh
/-- Put keeps the invariant. -/
theorem put_inv {base : Nat → Prop} {b : Nat} {S : GS} {z : List GE} {w w' : World} {e : Ending} (hi : Inv S) (ho : ∀ x ∈ z, ∀ v ∈ x.row, v.Ok) (h : PutPost base b S z w e w') :
    Mut base b w w' ∧ ∃ err S', e = .returned (.int .i64 err) ∧ SpAt base b w' S' ∧ Inv S' ∧ S'.cols = S.cols ∧ heldL S'.bs ≤ heldL S.bs + z.length ∧ S'.live ≤ S.live + z.length := by
  obtain ⟨hm, h⟩ := h
  refine ⟨hm, ?_⟩
  split at h
  · exact ⟨1, S, h.1, h.2, hi, rfl, by omega, by omega⟩
  · next hz =>
    have hz : zsound z = true := by simpa using hz
    split at h
    · exact ⟨1, S, h.1, h.2, hi, rfl, by omega, by omega⟩
    · next xs hxs =>
      obtain ⟨i1, i2, i3⟩ := items_ok hz ho hxs
      have hlen : xs.length = z.length := by have := congrArg List.length (itemsL_parts hxs).2; simpa using this
      split at h
      · exact ⟨11, S, h.1, h.2, hi, rfl, by omega, by omega⟩
      · next live hl =>
        obtain ⟨he, bs1, bs2, hb, hj, hh, hs⟩ := h
        split at hb
        · next hx0 =>
          subst hb hx0
          have hl' : live = S.live := by simp only [liveL, Option.some.injEq] at hl; exact hl.symm
          have hI := hj.inv hi.fine hi.row (hl'.trans hi.live) hh
          exact ⟨0, _, he, hs, hI, rfl, by have := hj.held; simp only; omega, by simp only; omega⟩
        · next hx0 =>
          obtain ⟨ys, hp, hso, rfl⟩ := hb
          have hr := perm_rise hp i3 hso
          have hf : Fine (S.bs ++ [ys]) := fun y hy => by
            rcases List.mem_append.1 hy with hy | hy
            · exact hi.fine y hy
            · rw [List.mem_singleton.1 hy]
              exact ⟨hr, fun u hu => i2 u (hp.mem_iff.1 hu), fun h0 => hx0 (by rw [h0] at hp; exact hp.symm.eq_nil)⟩
          have hrow : ∀ y ∈ S.bs ++ [ys], ∀ u ∈ y, IOk S.cols u.key u.enc u.row := fun y hy u hu => by
            rcases List.mem_append.1 hy with hy | hy
            · exact hi.row y hy u hu
            · rw [List.mem_singleton.1 hy] at hu
              exact i1 u (hp.mem_iff.1 hu)
          have hc := put_count hi.fine hp hr hi.live hl
          have hI := hj.inv hf hrow hc hh
          have hhe := hj.held
          rw [heldL_app] at hhe
          simp only [heldL] at hhe
          have hpl := hp.length_eq
          refine ⟨0, _, he, hs, hI, rfl, by simp only; omega, ?_⟩
          have h1 : allL (S.bs ++ [ys]) = mergeL (allL S.bs) ys := by unfold allL; rw [List.foldl_append]; rfl
          have h2 := mergeL_length (allL S.bs) ys
          have h3 := hi.live
          rw [h1] at hc
          simp only
          omega
/-- What two spines of one content tell is one list. -/
theorem all_one {cols : List Int} {a b : List (List GI)} (fa : Fine a) (fb : Fine b) (ra : ∀ z ∈ a, ∀ u ∈ z, IOk cols u.key u.enc u.row) (rb : ∀ z ∈ b, ∀ u ∈ z, IOk cols u.key u.enc u.row) (h : ∀ k e, weightL a k e = weightL b k e) : allL a = allL b := by
  obtain ⟨a1, a2, a3⟩ := allL_fine fa
  obtain ⟨b1, b2, b3⟩ := allL_fine fb
  have hm := rise_ext a1 b1 a2 b2 fun k e => by rw [a3, b3, h]
  have hall : ∀ (bs : List (List GI)), (∀ z ∈ bs, ∀ u ∈ z, IOk cols u.key u.enc u.row) → ∀ u ∈ allL bs, IOk cols u.key u.enc u.row := by
    intro bs hbs
    have key : ∀ (bs : List (List GI)) (a : List GI), (∀ u ∈ a, IOk cols u.key u.enc u.row) → (∀ z ∈ bs, ∀ u ∈ z, IOk cols u.key u.enc u.row) → ∀ u ∈ bs.foldl mergeL a, IOk cols u.key u.enc u.row := by
      intro bs
      induction bs with
      | nil => intro a ha _; exact ha
      | cons z bs ih => intro a ha hb; exact ih _ (mergeL_all a z ha (hb z (by simp))) fun z' hz' => hb z' (by simp [hz'])
    exact key bs [] (by simp) hbs
  have qa := hall a ra
  have qb := hall b rb
  generalize allL a = x at *
  generalize allL b = y at *
  clear a1 a2 a3 b1 b2 b3 fa fb ra rb h hall
  induction x generalizing y with
  | nil => cases y with
    | nil => rfl
    | cons v y => simp at hm
  | cons u x ih => cases y with
    | nil => simp at hm
    | cons v y =>
      simp only [List.map_cons, List.cons.injEq, Prod.mk.injEq] at hm
      obtain ⟨⟨e1, e2, e3⟩, e4⟩ := hm
      have hu := qa u (by simp)
      have hv := qb v (by simp)
      have er : u.row = v.row := encB_inj hu.1 hv.1 (by rw [← hu.2.1, ← hv.2.1, e2])
      rw [ih (fun t ht => qa t (by simp [ht])) y (fun t ht => qb t (by simp [ht])) e4]
      cases u; cases v
      simp only at e1 e2 e3 er
      rw [e1, e2, e3, er]
/-- Sorted lists of the same entries are one list. -/
theorem sorted_one : ∀ {xs ys : List GE}, xs.Perm ys → (xs.Pairwise fun x y => ¬ rlex y.row x.row < 0) → (ys.Pairwise fun x y => ¬ rlex y.row x.row < 0) → (∀ u ∈ xs, ∀ v ∈ xs, rlex u.row v.row = 0 → u = v) → xs = ys
  | [], ys, h, _, _, _ => h.symm.eq_nil.symm
  | x :: xs, [], h, _, _, _ => h.eq_nil
  | x :: xs, y :: ys, h, h1, h2, hu => by
    have e : x = y := by
      have m1 : x ∈ y :: ys := h.mem_iff.1 (by simp)
      have m2 : y ∈ x :: xs := h.mem_iff.2 (by simp)
      rcases List.mem_cons.1 m1 with m1 | m1
      · exact m1
      · rcases List.mem_cons.1 m2 with m2 | m2
        · exact m2.symm
        · have a1 := (List.pairwise_cons.1 h1).1 y m2
          have a2 := (List.pairwise_cons.1 h2).1 x m1
          have a3 := rlex_cmp.flip x.row y.row
          have a4 := rlex_cmp.flip y.row x.row
          exact hu x (by simp) y (by simp [m2]) (by omega)
    subst e
    rw [sorted_one ((List.perm_cons x).1 h) (List.pairwise_cons.1 h1).2 (List.pairwise_cons.1 h2).2 fun u hu' v hv => hu u (by simp [hu']) v (by simp [hv])]
end Go.Proofs.YtflckpfpgpfjlaaGreatDoor
end
section
namespace Go.Proofs.YtflckpfpgpfjlaaGreatDoor
open Go.RowKit Go.Sort
theorem RdZ.vals {w : World} {ok : Blk} {v : Value} {z : List GE} (h : RdZ w ok v z) : ∀ x ∈ z, ∀ y ∈ x.row, y.Ok := by
  intro x hx
  obtain ⟨j, hj⟩ := List.mem_iff_getElem?.1 hx
  obtain ⟨_, _, _, _, _, _, _, _, hr, _⟩ := h.ent hj
  exact hr.all
/-- Two items of one rising list with one row are one. -/
theorem Rise.one {z : List GI} (h : Rise z) {x y : GI} (hx : x ∈ z) (hy : y ∈ z) (hc : x.cmp y = 0) : x = y := by
  obtain ⟨i, hi⟩ := List.mem_iff_getElem?.1 hx
  obtain ⟨j, hj⟩ := List.mem_iff_getElem?.1 hy
  rcases Nat.lt_trichotomy i j with hij | rfl | hij
  · have := h.get hij hi hj; omega
  · rw [hi] at hj; exact Option.some.inj hj
  · have := h.get hij hj hi
    have := (gicmp.eqv x y).1 hc
    omega
theorem ents_one {cols : List Int} {z : List GI} (hz : Rise z) (hi : ∀ u ∈ z, IOk cols u.key u.enc u.row) {xs : List GE} (hp : xs.Perm (z.map GI.ent)) : ∀ u ∈ xs, ∀ v ∈ xs, rlex u.row v.row = 0 → u = v := by
  intro u hu v hv h
  obtain ⟨x, hx, rfl⟩ := List.mem_map.1 (hp.mem_iff.1 hu)
  obtain ⟨y, hy, rfl⟩ := List.mem_map.1 (hp.mem_iff.1 hv)
  obtain ⟨a1, a2, ka, a3, a4⟩ := hi x hx
  obtain ⟨b1, b2, kb, b3, b4⟩ := hi y hy
  have hr : x.row = y.row := rlex_eq a1.2 b1.2 (rsound_at a1.1).2 (rsound_at b1.1).2 h
  have hk : ka = kb := by rw [hr, b3] at a3; exact (Option.some.inj a3).symm
  have : x = y := hz.one hx hy (kcmp_zero.2 ⟨by rw [a4, b4, hk], by rw [a2, b2, hr]⟩)
  rw [this]
theorem allL_ok {cols : List Int} (bs : List (List GI)) (hbs : ∀ z ∈ bs, ∀ u ∈ z, IOk cols u.key u.enc u.row) : ∀ u ∈ allL bs, IOk cols u.key u.enc u.row := by
  have key : ∀ (bs : List (List GI)) (a : List GI), (∀ u ∈ a, IOk cols u.key u.enc u.row) → (∀ z ∈ bs, ∀ u ∈ z, IOk cols u.key u.enc u.row) → ∀ u ∈ bs.foldl mergeL a, IOk cols u.key u.enc u.row := by
    intro bs
    induction bs with
    | nil => intro a ha _; exact ha
    | cons z bs ih => intro a ha hb; exact ih _ (mergeL_all a z ha (hb z (by simp))) fun z' hz' => hb z' (by simp [hz'])
  exact key bs [] (by simp) hbs
/-- Before and behind Compact All tells the same. -/
theorem told_same {cols : List Int} {a b : List (List GI)} (fa : Fine a) (ra : ∀ z ∈ a, ∀ u ∈ z, IOk cols u.key u.enc u.row) (hj : Joins a b) {xs ys : List GE} (hx : xs.Perm ((allL a).map GI.ent)) (hy : ys.Perm ((allL b).map GI.ent))
    (sx : xs.Pairwise fun x y => ¬ rlex y.row x.row < 0) (sy : ys.Pairwise fun x y => ¬ rlex y.row x.row < 0) : ys = xs := by
  have h := all_one fa (hj.fine fa).1 ra (hj.row ra) (fun k e => ((hj.fine fa).2 k e).symm)
  rw [← h] at hy
  exact sorted_one (hy.trans hx.symm) sy sx (ents_one (allL_fine fa).1 (allL_ok a ra) hy)
theorem Inv.sound {S : GS} (h : Inv S) : ∀ z ∈ S.bs, ∀ u ∈ z, rsound u.row = true := fun z hz u hu => (h.row z hz u hu).1.1
theorem lookW_keyed (z : List GI) (k k' e' : ByteArray) : lookW (keyed k z) k' e' = if k' = k then lookW z k' e' else 0 := by
  induction z with
  | nil => unfold keyed; simp [lookW_nil]
  | cons x z ih =>
    unfold keyed at *
    by_cases hk : x.key = k
    · rw [List.filter_cons_of_pos (by simpa using hk)]
      by_cases hx : x.key = k' ∧ x.enc = e'
      · obtain ⟨rfl, rfl⟩ := hx
        rw [lookW_cons_eq, lookW_cons_eq, if_pos hk]
      · rw [lookW_cons_ne _ hx, lookW_cons_ne _ hx, ih]
    · rw [List.filter_cons_of_neg (by simpa using hk), ih]
      split
      · next h => rw [lookW_cons_ne _ (by rintro ⟨h1, _⟩; exact hk (h1.trans h))]
      · rfl
theorem lookS_keyed (bs : List (List GI)) (k k' e' : ByteArray) : lookS (bs.map (keyed k)) k' e' = if k' = k then lookS bs k' e' else 0 := by
  induction bs with
  | nil => split <;> rfl
  | cons z bs ih => rw [List.map_cons, lookS_cons, lookS_cons, ih, lookW_keyed]; split <;> omega
/-- What Get's merging says. -/
theorem getL_look {bs : List (List GI)} (hf : Fine bs) (k : ByteArray) : Rise (getL bs k) ∧ Nz (getL bs k) ∧ ∀ k' e', lookW (getL bs k) k' e' = if k' = k then weightL bs k' e' else 0 := by
  obtain ⟨h1, h2, h3⟩ := foldl_merge (bs.map (keyed k)) [] List.Pairwise.nil (by intro x hx; cases hx) fun z hz => by
    obtain ⟨y, hy, rfl⟩ := List.mem_map.1 hz
    exact ⟨(hf y hy).1.filter _, fun u hu => (hf y hy).2.1 u (List.mem_filter.1 hu).1⟩
  refine ⟨h1, h2, fun k' e' => ?_⟩
  have := h3 k' e'
  rw [lookW_nil, Int.zero_add, lookS_keyed, wrap64_of (lookW_i64 h2 k' e')] at this
  show lookW (List.foldl mergeL [] (bs.map (keyed k))) k' e' = _
  rw [this]
  split
  · rfl
  · exact wrap64_of (by unfold i64; omega)

/-! ### Multisets as lists of entries -/
/-- A row's weight in a list of entries, summed. -/
def zw (z : List GE) (r : List GV) : Int := sumI (fun x => if sameR x.row r = true then x.w else 0) z
theorem zw_nil (r : List GV) : zw [] r = 0 := rfl
theorem zw_cons (x : GE) (z : List GE) (r : List GV) : zw (x :: z) r = (if sameR x.row r = true then x.w else 0) + zw z r := rfl
theorem zw_hit (x : GE) (z : List GE) : zw (x :: z) x.row = x.w + zw z x.row := by rw [zw_cons, if_pos ((sameR_eq _ _).2 rfl)]
theorem zw_miss {x : GE} {r : List GV} (z : List GE) (h : x.row ≠ r) : zw (x :: z) r = zw z r := by rw [zw_cons, if_neg (fun e => h ((sameR_eq _ _).1 e)), Int.zero_add]
theorem zw_app (a b : List GE) (r : List GV) : zw (a ++ b) r = zw a r + zw b r := by
  induction a with
  | nil => rw [zw_nil, Int.zero_add]; rfl
  | cons x a ih => rw [List.cons_append, zw_cons, zw_cons, ih]; omega
theorem zw_perm {a b : List GE} (h : a.Perm b) (r : List GV) : zw a r = zw b r := sumI_perm _ h
theorem zw_none {z : List GE} {r : List GV} (h : ∀ x ∈ z, x.row ≠ r) : zw z r = 0 := by
  induction z with
  | nil => rfl
  | cons x z ih => rw [zw_miss _ (h x (by simp)), ih fun y hy => h y (by simp [hy])]
structure ZOk (z : List GE) : Prop where
  row : ∀ x ∈ z, RowOk x.row
  w : ∀ x ∈ z, x.w ≠ 0
  rise : z.Pairwise fun x y => rlex x.row y.row < 0
theorem ZOk.nil : ZOk [] := ⟨by simp, by simp, List.Pairwise.nil⟩
theorem ZOk.tail {x : GE} {z : List GE} (h : ZOk (x :: z)) : ZOk z := ⟨fun y hy => h.row y (by simp [hy]), fun y hy => h.w y (by simp [hy]), (List.pairwise_cons.1 h.rise).2⟩
theorem ZOk.sub {z y : List GE} (h : ZOk z) (hs : y.Sublist z) : ZOk y := ⟨fun x hx => h.row x (hs.subset hx), fun x hx => h.w x (hs.subset hx), h.rise.sublist hs⟩
theorem ZOk.filter {z : List GE} (h : ZOk z) (p : GE → Bool) : ZOk (z.filter p) := h.sub List.filter_sublist
theorem rlex_ne {r s : List GV} (h : rlex r s < 0) : r ≠ s := by
  rintro rfl
  have := rlex_cmp.refl r
  omega
theorem ZOk.head {x : GE} {z : List GE} (h : ZOk (x :: z)) : zw z x.row = 0 := zw_none fun y hy => (rlex_ne ((List.pairwise_cons.1 h.rise).1 y hy)).symm
theorem ZOk.at {z : List GE} (h : ZOk z) {x : GE} (hx : x ∈ z) : zw z x.row = x.w := by
  induction z with
  | nil => cases hx
  | cons y z ih =>
    rcases List.mem_cons.1 hx with rfl | hx
    · rw [zw_hit, h.head]; omega
    · rw [zw_miss _ (rlex_ne ((List.pairwise_cons.1 h.rise).1 x hx)), ih h.tail hx]
theorem zw_mem {z : List GE} {r : List GV} (h : zw z r ≠ 0) : ∃ x ∈ z, x.row = r := by
  by_cases hx : ∃ x ∈ z, x.row = r
  · exact hx
  · exact absurd (zw_none fun x hm e => hx ⟨x, hm, e⟩) h
/-- Two multisets of one content are one list. -/
theorem zext : ∀ {a b : List GE}, ZOk a → ZOk b → (∀ r, RowOk r → zw a r = zw b r) → a = b
  | [], [], _, _, _ => rfl
  | [], y :: b, _, hb, h => by
    have := h y.row (hb.row y (by simp))
    rw [zw_nil, hb.at (by simp)] at this
    exact absurd this.symm (hb.w y (by simp))
  | x :: a, [], ha, _, h => by
    have := h x.row (ha.row x (by simp))
    rw [zw_nil, ha.at (by simp)] at this
    exact absurd this (ha.w x (by simp))
  | x :: a, y :: b, ha, hb, h => by
    have hx := h x.row (ha.row x (by simp))
    have hy := h y.row (hb.row y (by simp))
    rw [ha.at (by simp)] at hx
    rw [hb.at (by simp)] at hy
    have e : x.row = y.row := by
      obtain ⟨u, hu, eu⟩ := zw_mem (z := y :: b) (r := x.row) (by rw [← hx]; exact ha.w x (by simp))
      obtain ⟨v, hv, ev⟩ := zw_mem (z := x :: a) (r := y.row) (by rw [hy]; exact hb.w y (by simp))
      rcases List.mem_cons.1 hu with rfl | hu
      · exact eu.symm
      · rcases List.mem_cons.1 hv with rfl | hv
        · exact ev
        · have h1 := (List.pairwise_cons.1 hb.rise).1 u hu
          have h2 := (List.pairwise_cons.1 ha.rise).1 v hv
          rw [eu] at h1
          rw [ev] at h2
          have := (rlex_cmp.flip x.row y.row).1 h2
          omega
    have ew : x.w = y.w := by rw [hx, e, hb.at (by simp)]
    have exy : x = y := by cases x; cases y; simp only at e ew; rw [e, ew]
    subst exy
    rw [zext ha.tail hb.tail fun r hr => by
      have := h r hr
      rw [zw_cons, zw_cons] at this
      omega]
theorem pickL_ok {r : List GV} {P : GV → Prop} (hr : ∀ x ∈ r, P x) : ∀ {cols : List Int} {k : List GV}, pickL r cols = some k → k.length = cols.length ∧ ∀ x ∈ k, P x := by
  intro cols
  induction cols with
  | nil => intro k h; simp only [pickL, Option.some.injEq] at h; subst h; exact ⟨rfl, by simp⟩
  | cons i cols ih =>
    intro k h
    unfold pickL at h
    split at h
    · cases h
    · split at h
      · cases h
      · next x hx =>
        obtain ⟨k', hk, rfl⟩ := Option.map_eq_some_iff.1 h
        obtain ⟨h1, h2⟩ := ih hk
        refine ⟨by rw [List.length_cons, h1, List.length_cons], fun y hy => ?_⟩
        rcases List.mem_cons.1 hy with rfl | hy
        · exact hr _ (List.mem_of_getElem? hx)
        · exact h2 y hy
theorem pick_ok {r k : List GV} {cols : List Int} (hr : RowOk r) (h : pick r cols = some k) : RowOk k := by
  unfold pick at h
  split at h
  · next hc =>
    obtain ⟨h1, h2⟩ := pickL_ok (P := fun x => x.Ok ∧ vsound x = true) (fun x hx => ⟨hr.2 x hx, (rsound_at hr.1).2 x hx⟩) h
    refine ⟨?_, fun x hx => (h2 x hx).1⟩
    unfold rsound
    rw [Bool.and_eq_true, decide_eq_true_eq, Bool.not_eq_true', List.any_eq_false]
    exact ⟨by omega, fun x hx => by rw [(h2 x hx).2]; simp⟩
  · cases h
theorem exists_sorted (l : List GE) : ∃ z : List GE, z.Perm l ∧ z.Pairwise fun x y => ¬ rlex y.row x.row < 0 := by
  have ht : ∀ a b : GE, ¬ rlex b.row a.row < 0 ↔ rlex a.row b.row ≤ 0 := fun a b => by
    have := rlex_cmp.flip b.row a.row
    omega
  refine ⟨l.mergeSort fun a b => decide (rlex a.row b.row ≤ 0), List.mergeSort_perm _ _, ?_⟩
  refine (List.pairwise_mergeSort (fun a b c h1 h2 => ?_) (fun a b => ?_) l).imp fun {a b} h => (ht a b).2 (of_decide_eq_true h)
  · exact decide_eq_true (rlex_cmp.trans _ _ _ (of_decide_eq_true h1) (of_decide_eq_true h2))
  · have := rlex_cmp.flip a.row b.row
    by_cases h : rlex a.row b.row ≤ 0
    · rw [decide_eq_true h]; rfl
    · have h2 : rlex b.row a.row ≤ 0 := by
        have := rlex_cmp.flip b.row a.row
        omega
      rw [decide_eq_true h2]; simp
theorem row_cmp {cols : List Int} {u v : GI} (hu : IOk cols u.key u.enc u.row) (hv : IOk cols v.key v.enc v.row) (h : u.row = v.row) : u.cmp v = 0 := by
  obtain ⟨_, e1, k1, p1, q1⟩ := hu
  obtain ⟨_, e2, k2, p2, q2⟩ := hv
  rw [h, p2] at p1
  have := Option.some.inj p1
  exact kcmp_zero.2 ⟨by rw [q1, q2, this], by rw [e1, e2, h]⟩
theorem ent_zw {cols : List Int} {r key : List GV} (hr : RowOk r) (hk : pick r cols = some key) : ∀ {a : List GI}, Rise a → (∀ u ∈ a, IOk cols u.key u.enc u.row) → zw (a.map GI.ent) r = lookW a (encB key) (encB r)
  | [], _, _ => rfl
  | x :: a, ha, hi => by
    obtain ⟨o, e1, k1, p1, q1⟩ := hi x (by simp)
    by_cases h : x.row = r
    · subst h
      rw [hk] at p1
      have hkk := Option.some.inj p1
      subst hkk
      rw [← q1, ← e1, lookW_cons_eq, List.map_cons]
      have h0 : zw (a.map GI.ent) x.row = 0 := zw_none fun y hy e => by
        obtain ⟨v, hv, rfl⟩ := List.mem_map.1 hy
        have h1 := ha.head v hv
        have h2 := row_cmp (hi x (by simp)) (hi v (by simp [hv])) e.symm
        omega
      show zw (⟨x.row, x.size⟩ :: _) x.row = _
      rw [zw_hit ⟨x.row, x.size⟩, h0]
      exact Int.add_zero _
    · rw [lookW_cons_ne _ (fun h2 => h (encB_inj o hr (by rw [← e1, h2.2]))), List.map_cons, zw_miss (x := x.ent) _ h, ent_zw hr hk ha.tail fun u hu => hi u (by simp [hu])]
theorem gi_zok {cols : List Int} {a : List GI} (h : Rise a) (n : Nz a) (hi : ∀ u ∈ a, IOk cols u.key u.enc u.row) {xs : List GE} (hp : xs.Perm (a.map GI.ent)) (hs : xs.Pairwise fun x y => ¬ rlex y.row x.row < 0) : ZOk xs where
  row := fun x hx => by
    obtain ⟨u, hu, rfl⟩ := List.mem_map.1 (hp.mem_iff.1 hx)
    exact (hi u hu).1
  w := fun x hx => by
    obtain ⟨u, hu, rfl⟩ := List.mem_map.1 (hp.mem_iff.1 hx)
    exact (n u hu).1
  rise := by
    have h1 : a.Pairwise fun u v => rlex u.row v.row ≠ 0 := h.imp_of_mem fun {u v} hu hv hc h0 => by
      have hr := rlex_eq (hi u hu).1.2 (hi v hv).1.2 (rsound_at (hi u hu).1.1).2 (rsound_at (hi v hv).1.1).2 h0
      have := row_cmp (hi u hu) (hi v hv) hr
      omega
    have h2 : (a.map GI.ent).Pairwise fun x y => rlex x.row y.row ≠ 0 := List.pairwise_map.2 h1
    have h3 := (hp.pairwise_iff (fun {x y} h h0 => h ((rlex_cmp.eqv x.row y.row).2 h0))).2 h2
    exact (hs.and h3).imp fun {x y} ⟨h4, h5⟩ => by
      have := rlex_cmp.flip y.row x.row
      omega
/-- The spine S holds the multiset z. -/
structure Told (S : GS) (z : List GE) : Prop where
  ok : ZOk z
  key : ∀ x ∈ z, ∃ k, pick x.row S.cols = some k
  eq : ∀ r k, RowOk r → pick r S.cols = some k → zw z r = weightL S.bs (encB k) (encB r)
theorem told_of {S : GS} (hi : Inv S) {xs : List GE} (hp : xs.Perm ((allL S.bs).map GI.ent)) (hs : xs.Pairwise fun x y => ¬ rlex y.row x.row < 0) : Told S xs := by
  obtain ⟨a1, a2, a3⟩ := allL_fine hi.fine
  have ha := allL_ok S.bs hi.row
  refine ⟨gi_zok a1 a2 ha hp hs, fun x hx => ?_, fun r k hr hk => ?_⟩
  · obtain ⟨u, hu, rfl⟩ := List.mem_map.1 (hp.mem_iff.1 hx)
    obtain ⟨_, _, k, hk, _⟩ := ha u hu
    exact ⟨k, hk⟩
  · rw [zw_perm hp, ent_zw hr hk a1 ha, a3]
theorem told_one {S : GS} {a b : List GE} (ha : Told S a) (hb : Told S b) : a = b := zext ha.ok hb.ok fun r hr => by
  cases hk : pick r S.cols with
  | none =>
    rw [zw_none fun x hx e => ?_, zw_none fun x hx e => ?_]
    · obtain ⟨k, h⟩ := hb.key x hx
      rw [e, hk] at h; cases h
    · obtain ⟨k, h⟩ := ha.key x hx
      rw [e, hk] at h; cases h
  | some k => rw [ha.eq r k hr hk, hb.eq r k hr hk]
theorem told_exists {S : GS} (hi : Inv S) : ∃ z, Told S z ∧ S.live = z.length := by
  obtain ⟨z, hp, hs⟩ := exists_sorted ((allL S.bs).map GI.ent)
  refine ⟨z, told_of hi hp hs, ?_⟩
  rw [hp.length_eq, List.length_map]
  exact hi.live
theorem told_len {S : GS} {z : List GE} (hi : Inv S) (ht : Told S z) : S.live = z.length := by
  obtain ⟨y, h1, h2⟩ := told_exists hi
  rw [told_one ht h1]; exact h2
theorem told_all {S : GS} {z xs : List GE} (hi : Inv S) (ht : Told S z) (hp : xs.Perm ((allL S.bs).map GI.ent)) (hs : xs.Pairwise fun x y => ¬ rlex y.row x.row < 0) : xs = z := told_one (told_of hi hp hs) ht
theorem told_new (cols : List Int) : Told ⟨cols, [], 0⟩ [] := ⟨ZOk.nil, by simp, fun r k _ _ => by rw [weightL_nil]; rfl⟩
theorem told_joins {S S' : GS} {z : List GE} (ht : Told S z) (hf : Fine S.bs) (hj : Joins S.bs S'.bs) (hc : S'.cols = S.cols) : Told S' z := ⟨ht.ok, by rw [hc]; exact ht.key, fun r k hr hk => by rw [(hj.fine hf).2]; exact ht.eq r k hr (by rw [← hc]; exact hk)⟩
/-- Has a row this key? -/
def keyIs (cols : List Int) (key r : List GV) : Bool := match pick r cols with
  | some k => sameR k key
  | none => false
theorem told_get {S : GS} {z : List GE} (hi : Inv S) (ht : Told S z) {key : List GV} (hkey : RowOk key) {xs : List GE} (hp : xs.Perm ((getL S.bs (encB key)).map GI.ent)) (hs : xs.Pairwise fun x y => ¬ rlex y.row x.row < 0) :
    xs = z.filter fun x => keyIs S.cols key x.row := by
  obtain ⟨g1, g2, g3⟩ := getL_look hi.fine (encB key)
  have hg : ∀ u ∈ getL S.bs (encB key), IOk S.cols u.key u.enc u.row := allL_ok _ fun z hz u hu => by
    obtain ⟨y, hy, rfl⟩ := List.mem_map.1 hz
    exact hi.row y hy u (List.mem_filter.1 hu).1
  have hx := gi_zok g1 g2 hg hp hs
  refine zext hx (ht.ok.filter _) fun r hr => ?_
  have hz : zw (z.filter fun x => keyIs S.cols key x.row) r = if keyIs S.cols key r = true then zw z r else 0 := by
    clear hp hs hx ht
    induction z with
    | nil => simp [zw_nil]
    | cons x z ih =>
      by_cases h : keyIs S.cols key x.row = true
      · rw [List.filter_cons_of_pos (p := fun x : GE => keyIs S.cols key x.row) h, zw_cons, zw_cons, ih]
        by_cases e : sameR x.row r = true
        · rw [← (sameR_eq _ _).1 e, h]; simp
        · rw [if_neg e]; split <;> omega
      · rw [List.filter_cons_of_neg (p := fun x : GE => keyIs S.cols key x.row) h, zw_cons, ih]
        by_cases e : sameR x.row r = true
        · rw [← (sameR_eq _ _).1 e, if_neg h, if_neg h]
        · rw [if_neg e]; split <;> omega
  rw [hz]
  unfold keyIs
  cases hk : pick r S.cols with
  | none =>
    rw [zw_none fun x hx' e => ?_]
    · simp
    · obtain ⟨u, hu, rfl⟩ := List.mem_map.1 (hp.mem_iff.1 hx')
      obtain ⟨_, _, k, h, _⟩ := hg u hu
      rw [show u.row = r from e, hk] at h; cases h
  | some k =>
    rw [zw_perm hp, ent_zw hr hk g1 hg, g3, ht.eq r k hr hk]
    by_cases e : k = key
    · subst e
      rw [if_pos rfl, if_pos ((sameR_eq _ _).2 rfl)]
    · rw [if_neg (fun h => e (encB_inj (pick_ok hr hk) hkey h)), if_neg (fun h => e ((sameR_eq _ _).1 h))]
theorem told_weight {S : GS} {z : List GE} (ht : Told S z) {r : List GV} (hr : RowOk r) : weightOf S r = zw z r := by
  unfold weightOf
  cases hk : pick r S.cols with
  | none =>
    rw [zw_none fun x hx e => ?_]
    obtain ⟨k, h⟩ := ht.key x hx
    rw [e, hk] at h; cases h
  | some k => exact (ht.eq r k hr hk).symm
def FairZ (z : List GE) : Prop := ∀ x ∈ z, fair x.w = true
theorem FairZ.at {z : List GE} (h : FairZ z) (hz : ZOk z) (r : List GV) : fair (zw z r) = true := by
  by_cases h0 : zw z r = 0
  · rw [h0]; decide
  · obtain ⟨x, hx, rfl⟩ := zw_mem h0
    rw [hz.at hx]; exact h x hx
theorem zsound_ok {z : List GE} (h : zsound z = true) (hv : ∀ x ∈ z, ∀ y ∈ x.row, y.Ok) : ZOk z ∧ FairZ z := by
  obtain ⟨h1, h2⟩ := zsound_parts h
  exact ⟨⟨fun x hx => ⟨(h1 x hx).2.2, hv x hx⟩, fun x hx => (h1 x hx).1, h2⟩, fun x hx => (h1 x hx).2.1⟩
/-- What Put answers. -/
def putE (cols : List Int) (z d : List GE) : Int :=
  if zsound d = false ∨ (d.any fun x => (pick x.row cols).isNone) = true then 1 else if (d.any fun x => overW (zw z x.row) x.w) = true then 11 else 0
theorem itemsL_none {cols : List Int} : ∀ {d : List GE}, itemsL cols d = none ↔ (d.any fun x => (pick x.row cols).isNone) = true
  | [] => by simp [itemsL]
  | x :: d => by
    rw [itemsL, List.any_cons, Bool.or_eq_true, ← itemsL_none]
    unfold itemG
    cases pick x.row cols with
    | none => simp
    | some k => simp
theorem itemsL_ent {cols : List Int} : ∀ {d : List GE} {xs : List GI}, itemsL cols d = some xs → xs.map GI.ent = d
  | [], xs, h => by
    simp only [itemsL, Option.some.injEq] at h
    subst h; rfl
  | x :: d, xs, h => by
    rw [itemsL] at h
    split at h
    · cases h
    · next y hy =>
      obtain ⟨ys, h1, rfl⟩ := Option.map_eq_some_iff.1 h
      obtain ⟨key, _, rfl⟩ := itemG_some hy
      rw [List.map_cons, itemsL_ent h1]
      rfl
theorem liveL_none {bs : List (List GI)} : ∀ {xs : List GI} {l : Int}, liveL bs l xs = none ↔ (xs.any fun x => overW (weightL bs x.key x.enc) x.size) = true
  | [], l => by simp [liveL]
  | x :: xs, l => by
    rw [liveL, List.any_cons, Bool.or_eq_true]
    by_cases h : overW (weightL bs x.key x.enc) x.size = true
    · rw [if_pos h]; simp [h]
    · rw [if_neg h, liveL_none]; simp [h]
theorem items_over {S : GS} {z d : List GE} {xs : List GI} (ht : Told S z) (hx : itemsL S.cols d = some xs) (hd : ∀ x ∈ d, RowOk x.row) : (xs.any fun x => overW (weightL S.bs x.key x.enc) x.size) = d.any fun x => overW (zw z x.row) x.w := by
  have h1 := itemsL_ent hx
  subst h1
  rw [List.any_map]
  have : ∀ u ∈ xs, overW (weightL S.bs u.key u.enc) u.size = overW (zw z u.row) u.size := fun u hu => by
    obtain ⟨x, hxm, hg⟩ := (itemsL_parts hx).1 u hu
    obtain ⟨key, hk, rfl⟩ := itemG_some hg
    rw [ht.eq x.row key (hd x hxm) hk]
  rw [Bool.eq_iff_iff, List.any_eq_true, List.any_eq_true]
  exact ⟨fun ⟨u, hu, h⟩ => ⟨u, hu, by rw [this u hu] at h; exact h⟩, fun ⟨u, hu, h⟩ => ⟨u, hu, by rw [this u hu]; exact h⟩⟩
/-- z' is the sum of z and d. -/
def ZSum (z d z' : List GE) : Prop := ∀ r, RowOk r → zw z' r = zw z r + zw d r
theorem over_fair {o s : Int} (ho : fair o = true) (hs : fair s = true) (h : overW o s = false) : fair (o + s) = true := by
  unfold fair at *
  unfold overW at h
  simp only [Bool.and_eq_true, decide_eq_true_eq, Bool.or_eq_false_iff, Bool.and_eq_false_iff, decide_eq_false_iff_not] at *
  omega
theorem fair_over {o s : Int} (h : fair (o + s) = true) : overW o s = false := by
  unfold fair at h
  unfold overW
  simp only [Bool.and_eq_true, decide_eq_true_eq, Bool.or_eq_false_iff, Bool.and_eq_false_iff, decide_eq_false_iff_not] at *
  omega
/-- Put, told by multisets. -/
theorem told_put {base : Nat → Prop} {b : Nat} {S : GS} {z d : List GE} {w w' : World} {e : Ending} (hi : Inv S) (ht : Told S z) (hf : FairZ z) (ho : ∀ x ∈ d, ∀ v ∈ x.row, v.Ok) (h : PutPost base b S d w e w') :
    Mut base b w w' ∧ e = .returned (.int .i64 (putE S.cols z d)) ∧ ∃ S', SpAt base b w' S' ∧ Inv S' ∧ S'.cols = S.cols ∧ heldL S'.bs ≤ heldL S.bs + d.length ∧ S'.live ≤ S.live + d.length ∧
      ∃ z', Told S' z' ∧ FairZ z' ∧ (putE S.cols z d ≠ 0 → z' = z) ∧ (putE S.cols z d = 0 → ZSum z d z') := by
  obtain ⟨hm, h⟩ := h
  refine ⟨hm, ?_⟩
  split at h
  · next hz =>
    have hE : putE S.cols z d = 1 := by unfold putE; rw [if_pos (.inl hz)]
    rw [hE]
    exact ⟨h.1, S, h.2, hi, rfl, by omega, by omega, z, ht, hf, fun _ => rfl, fun h => absurd h (by decide)⟩
  · next hz =>
    have hz : zsound d = true := by simpa using hz
    split at h
    · next hxs =>
      have hE : putE S.cols z d = 1 := by unfold putE; rw [if_pos (.inr (itemsL_none.1 hxs))]
      rw [hE]
      exact ⟨h.1, S, h.2, hi, rfl, by omega, by omega, z, ht, hf, fun _ => rfl, fun h => absurd h (by decide)⟩
    · next xs hxs =>
      obtain ⟨i1, i2, i3⟩ := items_ok hz ho hxs
      obtain ⟨zd, fd⟩ := zsound_ok hz ho
      have hno : ¬ (zsound d = false ∨ (d.any fun x => (pick x.row S.cols).isNone) = true) := by
        rintro (h | h)
        · rw [hz] at h; cases h
        · rw [itemsL_none.2 h] at hxs; cases hxs
      have hov := items_over ht hxs zd.row
      have hlen : xs.length = d.length := by have := congrArg List.length (itemsL_parts hxs).2; simpa using this
      split at h
      · next hl =>
        have hE : putE S.cols z d = 11 := by unfold putE; rw [if_neg hno, if_pos (by rw [← hov]; exact liveL_none.1 hl)]
        rw [hE]
        exact ⟨h.1, S, h.2, hi, rfl, by omega, by omega, z, ht, hf, fun _ => rfl, fun h => absurd h (by decide)⟩
      · next live hl =>
        have hnov : ¬ (d.any fun x => overW (zw z x.row) x.w) = true := fun h => by
          rw [← hov] at h
          rw [liveL_none.2 h] at hl; cases hl
        have hE : putE S.cols z d = 0 := by unfold putE; rw [if_neg hno, if_neg hnov]
        rw [hE]
        obtain ⟨he, bs1, bs2, hb, hj, hh, hs⟩ := h
        have hfs : ∀ r, fair (zw z r + zw d r) = true := fun r => by
          by_cases h0 : zw d r = 0
          · rw [h0, Int.add_zero]; exact hf.at ht.ok r
          · obtain ⟨x, hx, rfl⟩ := zw_mem h0
            refine over_fair (hf.at ht.ok _) (fd.at zd _) ?_
            rw [zd.at hx]
            have := List.any_eq_false.1 (by simpa using hnov) x hx
            simpa using this
        have fin : ∀ {S' : GS}, Inv S' → (∀ r k, RowOk r → pick r S'.cols = some k → weightL S'.bs (encB k) (encB r) = zw z r + zw d r) → S'.cols = S.cols → ∃ z', Told S' z' ∧ FairZ z' ∧ ((0 : Int) ≠ 0 → z' = z) ∧ ((0 : Int) = 0 → ZSum z d z') := by
          intro S' hI hw hcc
          obtain ⟨z', h1, _⟩ := told_exists hI
          have hsum : ZSum z d z' := fun r hr => by
            cases hk : pick r S'.cols with
            | some k => rw [h1.eq r k hr hk, hw r k hr hk]
            | none =>
              rw [zw_none fun x hx e => ?_, zw_none fun x hx e => ?_, zw_none fun x hx e => ?_]
              · rfl
              · have h0 : itemsL S.cols d ≠ none := by rw [hxs]; simp
                refine h0 (itemsL_none.2 (List.any_eq_true.2 ⟨x, hx, ?_⟩))
                rw [e, ← hcc, hk]; rfl
              · obtain ⟨k, h⟩ := ht.key x hx
                rw [e, ← hcc, hk] at h; cases h
              · obtain ⟨k, h⟩ := h1.key x hx
                rw [e, hk] at h; cases h
          exact ⟨z', h1, fun x hx => by rw [← h1.ok.at hx, hsum _ (h1.ok.row x hx)]; exact hfs _, fun h => absurd rfl h, fun _ => hsum⟩
        split at hb
        · next hx0 =>
          subst hb hx0
          have hd0 : d = [] := by simpa using hlen.symm
          have hl' : live = S.live := by simp only [liveL, Option.some.injEq] at hl; exact hl.symm
          have hI := hj.inv hi.fine hi.row (hl'.trans hi.live) hh
          refine ⟨he, _, hs, hI, rfl, by have := hj.held; simp only; omega, by simp only; omega, fin hI (fun r k hr hk => ?_) rfl⟩
          rw [(hj.fine hi.fine).2, ← ht.eq r k hr hk, hd0, zw_nil, Int.add_zero]
        · next hx0 =>
          obtain ⟨ys, hp, hso, rfl⟩ := hb
          have hr := perm_rise hp i3 hso
          have hf' : Fine (S.bs ++ [ys]) := fun y hy => by
            rcases List.mem_append.1 hy with hy | hy
            · exact hi.fine y hy
            · rw [List.mem_singleton.1 hy]
              exact ⟨hr, fun u hu => i2 u (hp.mem_iff.1 hu), fun h0 => hx0 (by rw [h0] at hp; exact hp.symm.eq_nil)⟩
          have hys : ∀ u ∈ ys, IOk S.cols u.key u.enc u.row := fun u hu => i1 u (hp.mem_iff.1 hu)
          have hrow : ∀ y ∈ S.bs ++ [ys], ∀ u ∈ y, IOk S.cols u.key u.enc u.row := fun y hy u hu => by
            rcases List.mem_append.1 hy with hy | hy
            · exact hi.row y hy u hu
            · rw [List.mem_singleton.1 hy] at hu
              exact hys u hu
          have hc := put_count hi.fine hp hr hi.live hl
          have hI := hj.inv hf' hrow hc hh
          have hhe := hj.held
          rw [heldL_app] at hhe
          simp only [heldL] at hhe
          have hpl := hp.length_eq
          have h1 : allL (S.bs ++ [ys]) = mergeL (allL S.bs) ys := by unfold allL; rw [List.foldl_append]; rfl
          have h2 := mergeL_length (allL S.bs) ys
          have h3 := hi.live
          rw [h1] at hc
          refine ⟨he, _, hs, hI, rfl, by simp only; omega, by simp only; omega, fin hI (fun r k hrr hk => ?_) rfl⟩
          have e1 : zw d r = lookW ys (encB k) (encB r) := by rw [← itemsL_ent hxs, ← zw_perm (hp.map _), ent_zw hrr hk hr hys]
          have e2 : lookS [ys] (encB k) (encB r) = lookW ys (encB k) (encB r) := by rw [lookS_cons]; exact Int.add_zero _
          rw [(hj.fine hf').2, weightL_S, lookS_app, ← wrap64_add, ← weightL_S, ← ht.eq r k hrr hk, e2, ← e1]
          exact wrap64_of (fair_i64 (hfs r))
end Go.Proofs.YtflckpfpgpfjlaaGreatDoor
end
