/- A join.Op in memory and the blocks that it may change; a change of one leaves another as it is. A join's Step: plain words and the contracts of its callees. -/
import Derived.Test.YtflckpfpgpfjlaaGreatDoorMJn
import Derived.Test.YtflckpfpgpfjlaaGreatDoorMTold
import Derived.Test.YtflckpfpgpfjlaaGreatDoorMJmet
set_option linter.unusedVariables false
set_option linter.unusedSimpArgs false
section
namespace Go.Proofs.YtflckpfpgpfjlaaGreatDoor
open Go.RowKit Go.Sort
/-- What a join.Op of the blocks R changes. -/
structure JMut (R : Nat → Prop) (w w' : World) : Prop where
  os : w'.os = w.os
  tape : w'.tape = w.tape
  output : w'.output = w.output
  size : w.heap.size ≤ w'.heap.size
  block : ∀ k o, w.heap[k]? = some o → (¬ R k ∨ ∀ c fz, o ≠ .cells c 133 fz ∧ o ≠ .cells c 136 fz ∧ o ≠ .cells c 74 fz) → w'.heap[k]? = some o
section
variable {R : Nat → Prop} {w w' w'' : World}
theorem JMut.refl (R : Nat → Prop) (w : World) : JMut R w w := ⟨rfl, rfl, rfl, Nat.le_refl _, fun _ _ h _ => h⟩
theorem JMut.trans {R' : Nat → Prop} (h : JMut R w w') (k : JMut R' w' w'') (hr : ∀ k, k < w.heap.size → R' k → R k) : JMut R w w'' :=
  ⟨k.os.trans h.os, k.tape.trans h.tape, k.output.trans h.output, Nat.le_trans h.size k.size, fun i o hi ho => k.block i o (h.block i o hi ho) (by
    rcases ho with ho | ho
    · exact .inl fun hp => ho (hr i (Array.getElem?_eq_some_iff.1 hi).1 hp)
    · exact .inr ho)⟩
theorem JMut.below (h : JMut R w w') (k : Below w'.heap.size w' w'') : JMut R w w'' :=
  ⟨k.os.trans h.os, k.tape.trans h.tape, k.output.trans h.output, Nat.le_trans h.size k.size, fun i o hi ho => let h2 := h.block i o hi ho; (k.block i (Array.getElem?_eq_some_iff.1 h2).1).trans h2⟩
theorem JMut.of (R : Nat → Prop) (k : Below w.heap.size w w') : JMut R w w' := (JMut.refl R w).below k
theorem JMut.ofMut {P : Nat → Prop} {b : Nat} (h : Mut P b w w') (hb : R b) {cs : Array Value} {fr : Nat × Nat} (hs : w.heap[b]? = some (.cells cs 136 fr)) (hp : ∀ k, k < w.heap.size → P k → R k) : JMut R w w' :=
  ⟨h.os, h.tape, h.output, h.size, fun k o hk ho => by
    refine h.block k o hk ?_ ?_
    · rintro rfl
      rcases ho with ho | ho
      · exact ho hb
      · rw [hs] at hk
        injection hk with hk
        exact (ho cs fr).2.1 hk.symm
    · rcases ho with ho | ho
      · exact .inl fun hq => ho (hp k (Array.getElem?_eq_some_iff.1 hk).1 hq)
      · exact .inr fun c fz => (ho c fz).1⟩
theorem JMut.set (h : JMut R w w') {b i : Nat} {v : Value} (hb : R b) {cs : Array Value} {fr : Nat × Nat} (hs : w.heap[b]? = some (.cells cs 74 fr)) : JMut R w (w'.setCell ⟨b, i, none⟩ v) :=
  ⟨h.os, h.tape, h.output, by simpa using h.size, fun k o hk ho => by
    have hne : k ≠ b := by
      rintro rfl
      rcases ho with ho | ho
      · exact ho hb
      · rw [hs] at hk
        injection hk with hk
        exact (ho cs fr).2.2 hk.symm
    rw [Below.heap_setCell _ _ _ _ hne]
    exact h.block k o hk ho⟩
theorem JMut.stays (h : JMut R w w') {ok ok' : Blk} (hok : ∀ k t, ok k t → t ≠ 133 ∧ t ≠ 136 ∧ t ≠ 74 ∧ ok' k t) : Stays w w' ok ok' := by
  intro k t cells f ho hh
  obtain ⟨h1, h2, h3, _⟩ := hok k t ho.1
  refine ⟨ho.mono fun t h => (hok k t h).2.2.2, h.block k _ hh (.inr fun c fz => ⟨fun e => ?_, fun e => ?_, fun e => ?_⟩)⟩
  · injection e with _ h4 _
    exact h1 h4
  · injection e with _ h4 _
    exact h2 h4
  · injection e with _ h4 _
    exact h3 h4
/-- What lies in no block of R stays. -/
theorem JMut.outside (h : JMut R w w') {ok : Blk} (hok : ∀ k t, ok k t → ¬ R k) : Stays w w' ok ok := fun k _ _ _ ho hh => ⟨ho, h.block k _ hh (.inl (hok k _ ho.1))⟩
end
/-- A join.Op in block b, whose spines' heads and rows lie in R. -/
def JIn (R : Nat → Prop) (b bl br : Nat) (w : World) (lc rc : List Int) (wl wr broken : Int) (SL SR : GS) : Prop :=
  (R b ∧ R bl ∧ R br ∧ ∀ k, R k → k < w.heap.size) ∧ ∃ (PL PR : Nat → Prop) (lv rv : Value), w.heap[b]? = some (.cells #[lv, .int .i64 wl, .pointer (some ⟨bl, 0, none⟩), rv, .int .i64 wr, .pointer (some ⟨br, 0, none⟩), .int .i64 broken] 74 (0, 0)) ∧
  RdI w (Fresh 0 [3]) lv lc ∧ RdI w (Fresh 0 [3]) rv rc ∧ SpAt PL bl w SL ∧ SpAt PR br w SR ∧ bl ≠ br ∧ (∀ k, PL k → R k) ∧ (∀ k, PR k → R k) ∧ ∀ k, PL k → ¬ PR k
theorem cols_not {n : Nat} : ∀ k t, Fresh n [3] k t → t ≠ 133 ∧ t ≠ 136 ∧ t ≠ 74 := by
  intro k t h
  have h2 := h.2
  simp only [List.mem_cons, List.not_mem_nil, or_false] at h2
  subst h2
  exact ⟨by decide, by decide, by decide⟩
theorem rowB_not {P : Nat → Prop} : ∀ k t, RowB P k t → t ≠ 133 ∧ t ≠ 136 ∧ t ≠ 74 := by
  intro k t h
  have h2 := h.2
  simp only [List.mem_cons, List.not_mem_nil, or_false] at h2
  rcases h2 with rfl | rfl
  · exact ⟨by decide, by decide, by decide⟩
  · exact ⟨by decide, by decide, by decide⟩
theorem SpAt.keep {P : Nat → Prop} {b : Nat} {w w' : World} {S : GS} (h : SpAt P b w S) (hs : ∀ k c fz, w.heap[k]? = some (.cells c 136 fz) → k = b → w'.heap[k]? = some (.cells c 136 fz)) (hi : ∀ k c fz, w.heap[k]? = some (.cells c 133 fz) → P k → w'.heap[k]? = some (.cells c 133 fz)) (hst : ∀ ok : Blk, (∀ k t, ok k t → t ≠ 133 ∧ t ≠ 136 ∧ t ≠ 74) → Stays w w' ok ok) : SpAt P b w' S := by
  obtain ⟨u, bv, h1, h2, h3, h4⟩ := h
  refine ⟨u, bv, hs b _ _ h1 rfl, h2.mv (hst _ cols_not), ?_, h4⟩
  have h5 := h3.imp fun _ _ e => EBt.mv e (hst _ rowB_not)
  obtain ⟨ds, ho, hr, hone, hl⟩ := h5
  refine ⟨ds, ⟨ho.1, ?_⟩, hr, hone, hl⟩
  rcases ho.2 with h6 | ⟨g, cap, cur, hv, hb, hg, hrest⟩
  · exact .inl h6
  · have hq : P g := h4 g (by rw [hv]; rfl)
    exact .inr ⟨g, cap, cur, hv, hb, hi g _ _ hg hq, hrest⟩
section
variable {R : Nat → Prop} {b bl br : Nat} {w w' : World} {lc rc : List Int} {wl wr broken : Int} {SL SR : GS}
theorem JIn.at (h : JIn R b bl br w lc rc wl wr broken SL SR) : JAt b bl br w lc rc wl wr broken SL SR := by
  obtain ⟨⟨_, _, _, hr⟩, PL, PR, lv, rv, h1, h2, h3, h4, h5, h6, h7, h8, h9⟩ := h
  exact ⟨PL, PR, lv, rv, h1, h2, h3, h4, h5, h6, fun k hk => hr k (h7 k hk), fun k hk => hr k (h8 k hk), h9⟩
/-- Another operator's change leaves it as it is. -/
theorem JIn.apart {R' : Nat → Prop} (h : JIn R b bl br w lc rc wl wr broken SL SR) (hm : JMut R' w w') (hd : ∀ k, R k → ¬ R' k) : JIn R b bl br w' lc rc wl wr broken SL SR := by
  obtain ⟨⟨hb, hbl, hbr, hr⟩, PL, PR, lv, rv, h1, h2, h3, h4, h5, h6, h7, h8, h9⟩ := h
  have hst : ∀ ok : Blk, (∀ k t, ok k t → t ≠ 133 ∧ t ≠ 136 ∧ t ≠ 74) → Stays w w' ok ok := fun ok hok => hm.stays fun k t h => ⟨(hok k t h).1, (hok k t h).2.1, (hok k t h).2.2, h⟩
  refine ⟨⟨hb, hbl, hbr, fun k hk => Nat.lt_of_lt_of_le (hr k hk) hm.size⟩, PL, PR, lv, rv, hm.block b _ h1 (.inl (hd b hb)), h2.mv (hst _ cols_not), h3.mv (hst _ cols_not), ?_, ?_, h6, h7, h8, h9⟩
  · exact h4.keep (fun k c fz hk e => hm.block k _ hk (.inl (by rw [e]; exact hd bl hbl))) (fun k c fz hk hp => hm.block k _ hk (.inl (hd k (h7 k hp)))) hst
  · exact h5.keep (fun k c fz hk e => hm.block k _ hk (.inl (by rw [e]; exact hd br hbr))) (fun k c fz hk hp => hm.block k _ hk (.inl (hd k (h8 k hp)))) hst
theorem JIn.ext (h : JIn R b bl br w lc rc wl wr broken SL SR) (hb : Below w.heap.size w w') : JIn R b bl br w' lc rc wl wr broken SL SR := h.apart (JMut.of (fun _ => False) hb) fun _ _ h => h
/-- The blocks R, and those made since the heap had the size n. -/
def Since (R : Nat → Prop) (n m : Nat) (k : Nat) : Prop := R k ∨ n ≤ k ∧ k < m
theorem JIn.wide (h : JIn R b bl br w lc rc wl wr broken SL SR) (n : Nat) : JIn (Since R n w.heap.size) b bl br w lc rc wl wr broken SL SR := by
  obtain ⟨⟨hb, hbl, hbr, hr⟩, PL, PR, lv, rv, h1, h2, h3, h4, h5, h6, h7, h8, h9⟩ := h
  refine ⟨⟨.inl hb, .inl hbl, .inl hbr, fun k hk => ?_⟩, PL, PR, lv, rv, h1, h2, h3, h4, h5, h6, fun k hk => .inl (h7 k hk), fun k hk => .inl (h8 k hk), h9⟩
  rcases hk with hk | hk
  · exact hr k hk
  · exact hk.2
theorem JIn.sub {R' : Nat → Prop} (h : JIn R b bl br w lc rc wl wr broken SL SR) (hs : ∀ k, R k → R' k) (hl : ∀ k, R' k → k < w.heap.size) : JIn R' b bl br w lc rc wl wr broken SL SR := by
  obtain ⟨⟨hb, hbl, hbr, hr⟩, PL, PR, lv, rv, h1, h2, h3, h4, h5, h6, h7, h8, h9⟩ := h
  exact ⟨⟨hs _ hb, hs _ hbl, hs _ hbr, hl⟩, PL, PR, lv, rv, h1, h2, h3, h4, h5, h6, fun k hk => hs k (h7 k hk), fun k hk => hs k (h8 k hk), h9⟩
theorem JIn.opB (h : JIn R b bl br w lc rc wl wr broken SL SR) : ∃ cs, w.heap[b]? = some (.cells cs 74 (0, 0)) := let ⟨_, _, _, _, _, h1, _⟩ := h; ⟨_, h1⟩
/-- The left spine changes: what was made since lies in R too. -/
theorem JIn.left (h : JIn R b bl br w lc rc wl wr broken SL SR) : ∃ P : Nat → Prop, (∀ k, w.heap.size ≤ k → P k) ∧ (∀ k, k < w.heap.size → P k → R k) ∧ SpAt P bl w SL ∧ ∀ w' SL', SpAt P bl w' SL' → Mut P bl w w' → JIn (Since R w.heap.size w'.heap.size) b bl br w' lc rc wl wr broken SL' SR ∧ JMut R w w' := by
  obtain ⟨⟨hb, hbl, hbr, hr⟩, PL, PR, lv, rv, h1, h2, h3, h4, h5, h6, h7, h8, h9⟩ := h
  refine ⟨fun k => PL k ∨ w.heap.size ≤ k, fun k hk => .inr hk, fun k hl hk => ?_, h4.mono fun k _ hk => .inl hk, fun w' SL' hs hm => ?_⟩
  · rcases hk with hk | hk
    · exact h7 k hk
    · omega
  obtain ⟨cs, hh⟩ := h4.head
  refine ⟨⟨⟨.inl hb, .inl hbl, .inl hbr, fun k hk => ?_⟩, fun k => (PL k ∨ w.heap.size ≤ k) ∧ k < w'.heap.size, PR, lv, rv, hm.block b _ h1 (fun e => ?_) (.inr fun c fz e => by injection e with _ e2 _; revert e2; decide), h2.mv (hm.stays hh fresh_cols), h3.mv (hm.stays hh fresh_cols), hs.mono fun k hk hp => ⟨hp, hk⟩, h5.apart hm hh (fun e => h6 e.symm) (fun k hk hq hp => ?_), h6, fun k hk => ?_, fun k hk => .inl (h8 k hk), fun k hk hq => ?_⟩, JMut.ofMut hm hbl hh fun k hl hk => ?_⟩
  · rcases hk with hk | hk
    · exact Nat.lt_of_lt_of_le (hr k hk) hm.size
    · exact hk.2
  · subst e
    have := tag_eq h1 hh
    revert this
    decide
  · rcases hp with hp | hp
    · exact h9 k hp hq
    · omega
  · rcases hk.1 with hp | hp
    · exact .inl (h7 k hp)
    · exact .inr ⟨hp, hk.2⟩
  · rcases hk.1 with hp | hp
    · exact h9 k hp hq
    · have := hr k (h8 k hq)
      omega
  · rcases hk with hk | hk
    · exact h7 k hk
    · omega
theorem JIn.right (h : JIn R b bl br w lc rc wl wr broken SL SR) : ∃ P : Nat → Prop, (∀ k, w.heap.size ≤ k → P k) ∧ (∀ k, k < w.heap.size → P k → R k) ∧ SpAt P br w SR ∧ ∀ w' SR', SpAt P br w' SR' → Mut P br w w' → JIn (Since R w.heap.size w'.heap.size) b bl br w' lc rc wl wr broken SL SR' ∧ JMut R w w' := by
  obtain ⟨⟨hb, hbl, hbr, hr⟩, PL, PR, lv, rv, h1, h2, h3, h4, h5, h6, h7, h8, h9⟩ := h
  refine ⟨fun k => PR k ∨ w.heap.size ≤ k, fun k hk => .inr hk, fun k hl hk => ?_, h5.mono fun k _ hk => .inl hk, fun w' SR' hs hm => ?_⟩
  · rcases hk with hk | hk
    · exact h8 k hk
    · omega
  obtain ⟨cs, hh⟩ := h5.head
  refine ⟨⟨⟨.inl hb, .inl hbl, .inl hbr, fun k hk => ?_⟩, PL, fun k => (PR k ∨ w.heap.size ≤ k) ∧ k < w'.heap.size, lv, rv, hm.block b _ h1 (fun e => ?_) (.inr fun c fz e => by injection e with _ e2 _; revert e2; decide), h2.mv (hm.stays hh fresh_cols), h3.mv (hm.stays hh fresh_cols), h4.apart hm hh h6 (fun k hk hq hp => ?_), hs.mono fun k hk hp => ⟨hp, hk⟩, h6, fun k hk => .inl (h7 k hk), fun k hk => ?_, fun k hk hq => ?_⟩, JMut.ofMut hm hbr hh fun k hl hk => ?_⟩
  · rcases hk with hk | hk
    · exact Nat.lt_of_lt_of_le (hr k hk) hm.size
    · exact hk.2
  · subst e
    have := tag_eq h1 hh
    revert this
    decide
  · rcases hp with hp | hp
    · exact h9 k hq hp
    · omega
  · rcases hk.1 with hp | hp
    · exact .inl (h8 k hp)
    · exact .inr ⟨hp, hk.2⟩
  · rcases hq.1 with hp | hp
    · exact h9 k hk hp
    · have := hr k (h7 k hk)
      omega
  · rcases hk with hk | hk
    · exact h8 k hk
    · omega
/-- Its error is noted. -/
theorem JIn.broke (h : JIn R b bl br w lc rc wl wr broken SL SR) (q : Int) : JIn R b bl br (w.setCell ⟨b, 6, none⟩ (.int .i64 q)) lc rc wl wr q SL SR := by
  obtain ⟨⟨hb, hbl, hbr, hr⟩, PL, PR, lv, rv, h1, h2, h3, h4, h5, h6, h7, h8, h9⟩ := h
  have hst : ∀ ok : Blk, (∀ k t, ok k t → t ≠ 133 ∧ t ≠ 136 ∧ t ≠ 74) → Stays w (w.setCell ⟨b, 6, none⟩ (.int .i64 q)) ok ok := fun ok hT => Stays.set (p := ⟨b, 6, none⟩) _ (fun t cells fr hh ho => by
    rw [h1] at hh
    injection hh with hh
    injection hh with _ ht _
    exact (hT _ _ ho).2.2 ht.symm) _
  have hne : ∀ {c : Array Value} {T : TypeId} {fz : Nat × Nat} {k : Nat}, T ≠ 74 → w.heap[k]? = some (.cells c T fz) → (w.setCell ⟨b, 6, none⟩ (.int .i64 q)).heap[k]? = some (.cells c T fz) := fun {c T fz k} hT hk => by
    have : k ≠ b := by
      rintro rfl
      exact hT (tag_eq hk h1)
    rw [Below.heap_setCell _ _ _ _ this]
    exact hk
  refine ⟨⟨hb, hbl, hbr, fun k hk => by simpa using hr k hk⟩, PL, PR, lv, rv, ?_, h2.mv (hst _ cols_not), h3.mv (hst _ cols_not), ?_, ?_, h6, h7, h8, h9⟩
  · have h10 := heap_setCell_same w b 6 _ 74 (.int .i64 q) h1
    simpa using h10
  · exact h4.keep (fun k c fz hk _ => hne (by decide) hk) (fun k c fz hk _ => hne (by decide) hk) hst
  · exact h5.keep (fun k c fz hk _ => hne (by decide) hk) (fun k c fz hk _ => hne (by decide) hk) hst
end
theorem JNew.inside {b bl br n : Nat} {w : World} {lc rc : List Int} {wl wr : Int} (h : JNew b bl br w lc rc wl wr) (hb : n ≤ b) (hl : n ≤ bl) (hr : n ≤ br) : JIn (fun k => n ≤ k ∧ k < w.heap.size) b bl br w lc rc wl wr 0 ⟨lc, [], 0⟩ ⟨rc, [], 0⟩ := by
  obtain ⟨h6, lv, rv, h1, h2, h3, h4, h5⟩ := h
  exact ⟨⟨⟨hb, (Array.getElem?_eq_some_iff.1 h1).1⟩, ⟨hl, h4.lt⟩, ⟨hr, h5.lt⟩, fun k hk => hk.2⟩, _, _, lv, rv, h1, h2, h3, h4, h5, h6, fun k h => h.elim, fun k h => h.elim, fun k h => h.elim⟩
/-- A spine that holds the bag z by the columns cols. -/
structure Bag (S : GS) (cols : List Int) (z : List GE) : Prop where
  inv : Inv S
  told : Told S z
  fair : FairZ z
  cols : S.cols = cols
theorem Bag.new (cols : List Int) : Bag ⟨cols, [], 0⟩ cols [] := ⟨Inv.new cols, told_new cols, (fun x hx => by cases hx), rfl⟩
theorem Bag.live {S : GS} {cols : List Int} {z : List GE} (h : Bag S cols z) : S.live = z.length := told_len h.inv h.told
theorem Bag.held {S : GS} {cols : List Int} {z : List GE} (h : Bag S cols z) : heldL S.bs ≤ 2 * z.length + 16 := by
  have h1 := h.inv.held
  rw [h.live] at h1
  omega
/-- A join.Op whose bags are a and z. -/
def JSt (R : Nat → Prop) (b bl br : Nat) (w : World) (lc rc : List Int) (wl wr broken : Int) (a z : List GE) : Prop := ∃ SL SR, JIn R b bl br w lc rc wl wr broken SL SR ∧ Bag SL lc a ∧ Bag SR rc z
theorem JSt.ext {R : Nat → Prop} {b bl br : Nat} {w w' : World} {lc rc : List Int} {wl wr broken : Int} {a z : List GE} (h : JSt R b bl br w lc rc wl wr broken a z) (hb : Below w.heap.size w w') : JSt R b bl br w' lc rc wl wr broken a z := let ⟨SL, SR, h1, h2⟩ := h; ⟨SL, SR, h1.ext hb, h2⟩
theorem JSt.apart {R R' : Nat → Prop} {b bl br : Nat} {w w' : World} {lc rc : List Int} {wl wr broken : Int} {a z : List GE} (h : JSt R b bl br w lc rc wl wr broken a z) (hm : JMut R' w w') (hd : ∀ k, R k → ¬ R' k) : JSt R b bl br w' lc rc wl wr broken a z := let ⟨SL, SR, h1, h2⟩ := h; ⟨SL, SR, h1.apart hm hd, h2⟩
end Go.Proofs.YtflckpfpgpfjlaaGreatDoor
end
section
namespace Go.Proofs.YtflckpfpgpfjlaaGreatDoor
open Go.RowKit Go.Sort
theorem flat_take {α β : Type} (l : List α) (f : α → List β) {k : Nat} {x : α} (h : l[k]? = some x) : (l.take (k + 1)).flatMap f = (l.take k).flatMap f ++ f x := by
  rw [List.take_add_one, h, List.flatMap_append]; simp
theorem any_take {α : Type} (l : List α) (p : α → Bool) {k : Nat} {x : α} (h : l[k]? = some x) : (l.take (k + 1)).any p = ((l.take k).any p || p x) := by
  rw [List.take_add_one, h, List.any_append]; simp
theorem flat_len {α β : Type} (l : List α) (f : α → List β) (n : Nat) (h : ∀ x ∈ l, (f x).length ≤ n) : (l.flatMap f).length ≤ l.length * n := by
  induction l with
  | nil => simp
  | cons x l ih =>
    have h1 := h x (by simp)
    have h2 := ih fun y hy => h y (by simp [hy])
    rw [List.flatMap_cons, List.length_append, List.length_cons, Nat.add_mul]
    omega
theorem flat_filter {α β : Type} (l : List α) (p : α → Bool) (f : α → List β) : (l.filter p).flatMap f = l.flatMap fun x => if p x = true then f x else [] := by
  induction l with
  | nil => rfl
  | cons x l ih =>
    by_cases h : p x = true
    · rw [List.filter_cons_of_pos h, List.flatMap_cons, List.flatMap_cons, if_pos h, ih]
    · rw [List.filter_cons_of_neg h, List.flatMap_cons, if_neg h, ih]; rfl
theorem any_filter' {α : Type} (l : List α) (p : α → Bool) (f : α → Bool) : (l.filter p).any f = l.any fun x => p x && f x := by
  induction l with
  | nil => rfl
  | cons x l ih =>
    cases h : p x with
    | true => rw [List.filter_cons_of_pos h, List.any_cons, List.any_cons, ih, h, Bool.true_and]
    | false => rw [List.filter_cons_of_neg (by rw [h]; decide), List.any_cons, ih, h, Bool.false_and, Bool.false_or]
theorem out1_len (a b : GSp) : (out1 a b).length ≤ 1 := by
  unfold out1
  split <;> simp
/-- What one changed row of the left gives. -/
def f1 (lc rc : List Int) (a b db : List GE) (x : GE) : List GE := (metL rc b db (keyOf lc x.row)).flatMap (out1 (spanOf a x))
def p1 (lc rc : List Int) (a b db : List GE) (x : GE) : Bool := (metL rc b db (keyOf lc x.row)).any (over1 (spanOf a x))
/-- What one row of the left that a changed row of the right meets gives. -/
def g2 (da : List GE) (s : GSp) (x : GE) : List GE := if zw da x.row = 0 then out1 (still x) s else []
def q2 (da : List GE) (s : GSp) (x : GE) : Bool := decide (zw da x.row = 0) && over1 (still x) s
def getL2 (lc rc : List Int) (a : List GE) (y : GE) : List GE := a.filter fun x => keyIs lc (keyOf rc y.row) x.row
def f2 (lc rc : List Int) (a b da : List GE) (y : GE) : List GE := (getL2 lc rc a y).flatMap (g2 da (spanOf b y))
def p2 (lc rc : List Int) (a b da : List GE) (y : GE) : Bool := (getL2 lc rc a y).any (q2 da (spanOf b y))
section
variable {lc rc : List Int} {a b da db : List GE}
theorem outs1_eq : outs1 lc rc a b da db = da.flatMap (f1 lc rc a b db) := rfl
theorem over1s_eq : over1s lc rc a b da db = da.any (p1 lc rc a b db) := rfl
theorem outs2_eq : outs2 lc rc a b da db = db.flatMap (f2 lc rc a b da) := by
  unfold outs2 calmL
  congr 1
  funext y
  rw [flat_filter]
  unfold f2 g2 getL2
  congr 1
  funext x
  by_cases h : zw da x.row = 0 <;> simp [h]
theorem over2s_eq : over2s lc rc a b da db = db.any (p2 lc rc a b da) := by
  unfold over2s calmL
  congr 1
  funext y
  rw [any_filter']
  rfl
theorem metL_len (cols : List Int) (z d : List GE) (key : List GV) : (metL cols z d key).length ≤ z.length + d.length := by
  unfold metL
  rw [List.length_append, List.length_map, List.length_map]
  have h1 := List.length_filter_le (fun y : GE => keyIs cols key y.row) z
  have h2 := List.length_filter_le (fun y : GE => sameR (keyOf cols y.row) key && decide (zw z y.row = 0)) d
  omega
theorem f1_len (x : GE) : (f1 lc rc a b db x).length ≤ b.length + db.length := by
  unfold f1
  have h1 := flat_len (metL rc b db (keyOf lc x.row)) (out1 (spanOf a x)) 1 fun y _ => out1_len _ _
  have h2 := metL_len rc b db (keyOf lc x.row)
  omega
theorem g2_len (s : GSp) (x : GE) : (g2 da s x).length ≤ 1 := by
  unfold g2
  split
  · exact out1_len _ _
  · simp
theorem getL2_len (y : GE) : (getL2 lc rc a y).length ≤ a.length := List.length_filter_le _ _
theorem f2_len (y : GE) : (f2 lc rc a b da y).length ≤ a.length := by
  unfold f2
  have h1 := flat_len (getL2 lc rc a y) (g2 da (spanOf b y)) 1 fun y _ => g2_len _ _
  have h2 := getL2_len (lc := lc) (rc := rc) (a := a) y
  omega
theorem pre1_len {k : Nat} (hk : k < da.length) {ys : List GSp} (hy : ys.length ≤ b.length + db.length) (j : Nat) (s : GSp) (hN : (a.length + da.length) * (b.length + db.length) ≤ 2147483648) : ((da.take k).flatMap (f1 lc rc a b db) ++ (ys.take j).flatMap (out1 s)).length ≤ 2147483648 := by
  have h1 := flat_len (da.take k) (f1 lc rc a b db) (b.length + db.length) fun x _ => f1_len x
  have h2 := flat_len (ys.take j) (out1 s) 1 fun y _ => out1_len _ _
  have h3 : (da.take k).length ≤ k := List.length_take_le _ _
  have h4 : (ys.take j).length ≤ ys.length := List.length_take_le' _ _
  have h5 : (da.take k).length * (b.length + db.length) ≤ k * (b.length + db.length) := Nat.mul_le_mul_right _ h3
  have h6 : (k + 1) * (b.length + db.length) ≤ (a.length + da.length) * (b.length + db.length) := Nat.mul_le_mul_right _ (by omega)
  rw [Nat.add_mul, Nat.one_mul] at h6
  rw [List.length_append]
  omega
theorem outs1_len : (outs1 lc rc a b da db).length ≤ da.length * (b.length + db.length) := by
  rw [outs1_eq]
  exact flat_len da _ _ fun x _ => f1_len x
theorem pre2_len {k : Nat} (hk : k < db.length) {ys : List GE} (hy : ys.length ≤ a.length) (j : Nat) (s : GSp) (hN : (a.length + da.length) * (b.length + db.length) ≤ 2147483648) : ((outs1 lc rc a b da db ++ (db.take k).flatMap (f2 lc rc a b da)) ++ (ys.take j).flatMap (g2 da s)).length ≤ 2147483648 := by
  have h0 := outs1_len (lc := lc) (rc := rc) (a := a) (b := b) (da := da) (db := db)
  have h1 := flat_len (db.take k) (f2 lc rc a b da) a.length fun x _ => f2_len x
  have h2 := flat_len (ys.take j) (g2 da s) 1 fun y _ => g2_len _ _
  have h3 : (db.take k).length ≤ k := List.length_take_le _ _
  have h4 : (ys.take j).length ≤ ys.length := List.length_take_le' _ _
  have h5 : (db.take k).length * a.length ≤ k * a.length := Nat.mul_le_mul_right _ h3
  have h6 : (k + 1) * a.length ≤ (b.length + db.length) * a.length := Nat.mul_le_mul_right _ (by omega)
  rw [Nat.add_mul, Nat.one_mul] at h6
  rw [Nat.add_mul, Nat.mul_comm a.length] at hN
  rw [List.length_append, List.length_append]
  omega
theorem outs_len (hN : (a.length + da.length) * (b.length + db.length) ≤ 2147483648) : (outs1 lc rc a b da db ++ outs2 lc rc a b da db).length ≤ 2147483648 := by
  have h0 := outs1_len (lc := lc) (rc := rc) (a := a) (b := b) (da := da) (db := db)
  have h1 := flat_len db (f2 lc rc a b da) a.length fun x _ => f2_len x
  rw [← outs2_eq] at h1
  have h6 : db.length * a.length ≤ (b.length + db.length) * a.length := Nat.mul_le_mul_right _ (by omega)
  rw [Nat.add_mul, Nat.mul_comm a.length] at hN
  rw [List.length_append]
  omega
end
theorem zWt_eq {z : List GE} (h : zsound z = true) (r : List GV) : zWt z r = zw z r := by
  unfold zWt
  by_cases hr : rsound r = true
  · rw [if_pos ⟨h, hr⟩]
  · rw [if_neg (fun e => hr e.2), zw_none fun x hx e => hr (by rw [← e]; exact ((zsound_parts h).1 x hx).2.2)]
theorem keyOf_ok {cols : List Int} {r : List GV} (hr : RowOk r) : RowOk (keyOf cols r) := by
  unfold keyOf
  cases h : pick r cols with
  | none => exact ⟨rfl, fun x hx => by cases hx⟩
  | some k => exact pick_ok hr h
theorem fits_parts {n : Int} {z : List GE} (h : fitsZ n z = true) : zsound z = true ∧ ∀ x ∈ z, (x.row.length : Int) = n := by
  unfold fitsZ wideZ at h
  rw [Bool.and_eq_true, Bool.not_eq_true', List.any_eq_false] at h
  refine ⟨h.1, fun x hx => ?_⟩
  have := h.2 x hx
  simpa using this
theorem fits_of {n : Int} {z : List GE} (h : zsound z = true) (hl : ∀ x ∈ z, (x.row.length : Int) = n) : fitsZ n z = true := by
  unfold fitsZ wideZ
  rw [Bool.and_eq_true, Bool.not_eq_true', List.any_eq_false]
  exact ⟨h, fun x hx => by simpa using hl x hx⟩
theorem bagWeight (base : Nat → Prop) (b : Nat) (S : GS) (cols : List Int) (z : List GE) (v : Value) (r : List GV) (w : World) (hw : GW w) (hr : RdV w AnyB v r) (hk : RowOk r) (h : SpAt base b w S) (hB : Bag S cols z) :
    Calls Tryz.prog 30 #[.pointer (some ⟨b, 0, none⟩), v] w fun e w' => e = .returned (.int .i64 (zw z r)) ∧ Below w.heap.size w w' := bagWeight_any base b S z v r w hw hr hk h hB.inv hB.told
theorem bagGet (base : Nat → Prop) (b : Nat) (S : GS) (cols : List Int) (z : List GE) (v : Value) (key : List GV) (w : World) (hw : GW w) (hr : RdV w AnyB v key) (hk : RowOk key) (h : SpAt base b w S) (hB : Bag S cols z) (hz : z.length ≤ 2147483640) :
    Calls Tryz.prog 34 #[.pointer (some ⟨b, 0, none⟩), v] w (BagPost cols z key w) := by
  have := hB.held
  rw [← hB.cols]
  exact bagGet_any base b S z v key w hw hr hk h hB.inv hB.told (by omega)
theorem bagWeight' (base : Nat → Prop) (b : Nat) (S : GS) (cols : List Int) (z : List GE) (v : Value) (r : List GV) (w : World) (hw : GW w) (hr : RdV w AnyB v r) (h : SpAt base b w S) (hB : Bag S cols z) :
    Calls Tryz.prog 30 #[.pointer (some ⟨b, 0, none⟩), v] w fun e w' => e = .returned (.int .i64 (zw z r)) ∧ Below w.heap.size w w' := by
  by_cases hs : rsound r = true
  · exact bagWeight base b S cols z v r w hw hr ⟨hs, hr.all⟩ h hB
  · have h1 := spWeight_any base b S v r w hw h (fun y hy => (hB.inv.fine y hy).1) hr
    have h2 : weightOf S r = 0 := by unfold weightOf pick; rw [if_neg (fun e => hs e.1)]
    rw [h2] at h1
    rw [zw_none fun x hx e => hs (by rw [← e]; exact (hB.told.ok.row x hx).1)]
    exact h1
/-- What Step's callees answer, in every world to come. -/
structure JC (w : World) (bl br : Nat) (lv rv dav dzv : Value) (wl wr : Int) (lc rc : List Int) (a z da dz : List GE) : Prop where
  wtL : ∀ (W : World) (r : List GV) (A : Option Addr) (c : Nat), Below w.heap.size w W → RdV W AnyB (.slice A r.length c) r → Calls Tryz.prog 30 #[.pointer (some ⟨bl, 0, none⟩), .slice A r.length c] W fun e w' => e = .returned (.int .i64 (zw a r)) ∧ Below W.heap.size W w'
  wtR : ∀ (W : World) (r : List GV) (A : Option Addr) (c : Nat), Below w.heap.size w W → RdV W AnyB (.slice A r.length c) r → Calls Tryz.prog 30 #[.pointer (some ⟨br, 0, none⟩), .slice A r.length c] W fun e w' => e = .returned (.int .i64 (zw z r)) ∧ Below W.heap.size W w'
  get : ∀ (W : World) (key : List GV) (A : Option Addr) (c : Nat), Below w.heap.size w W → RowOk key → RdV W AnyB (.slice A key.length c) key → Calls Tryz.prog 34 #[.pointer (some ⟨bl, 0, none⟩), .slice A key.length c] W (BagPost lc a key W)
  keyL : ∀ (W : World) (r : List GV) (A : Option Addr) (c : Nat), Below w.heap.size w W → RdV W AnyB (.slice A r.length c) r → Calls Tryz.prog 32 #[.agg #[lv, .int .i64 wl, .pointer (some ⟨bl, 0, none⟩)], .slice A r.length c] W (KeyPost W (keyOf lc r))
  keyR : ∀ (W : World) (r : List GV) (A : Option Addr) (c : Nat), Below w.heap.size w W → RdV W AnyB (.slice A r.length c) r → Calls Tryz.prog 32 #[.agg #[rv, .int .i64 wr, .pointer (some ⟨br, 0, none⟩)], .slice A r.length c] W (KeyPost W (keyOf rc r))
  met : ∀ (W : World) (key : List GV) (A : Option Addr) (c : Nat), Below w.heap.size w W → RowOk key → RdV W AnyB (.slice A key.length c) key → Calls Tryz.prog 31 #[.agg #[rv, .int .i64 wr, .pointer (some ⟨br, 0, none⟩)], .slice A key.length c, dzv] W (MetPost w.heap.size rc z dz key W)
  zwt : ∀ (W : World) (r : List GV) (A : Option Addr) (c : Nat), Below w.heap.size w W → RdV W AnyB (.slice A r.length c) r → Calls Tryz.prog 35 #[dav, .slice A r.length c] W fun e w' => e = .returned (.int .i64 (zw da r)) ∧ Ext W w'
end Go.Proofs.YtflckpfpgpfjlaaGreatDoor
end
