/- A join's operator in memory; the walk of join.New. -/
import Derived.Test.YtflckpfpgpfjlaaGreatDoorMPx
import Derived.Test.YtflckpfpgpfjlaaGreatDoorMSettle
import Derived.Deep.RegionHeld3
set_option linter.unusedVariables false
set_option linter.unusedSimpArgs false
namespace Go.Proofs.YtflckpfpgpfjlaaGreatDoor
open Go.RowKit Go.Sort
theorem NdC.of {w W : World} {cs arr : List Value} {T : TypeId} (hE : Ext (w.alloc (.cells arr.toArray T)) W) (o : Nat) (h : ∀ (j : Nat) (u : Value), cs[j]? = some u → arr[o + j]? = some u) : NdC W w.heap.size o cs := fun j u hj => by
  refine Ext.cell hE ?_
  rw [cell_of_row _ _ _ _ T (0, 0) (heap_alloc_new w _)]
  simpa using h j u hj
/-- The plan that New looks at. -/
def planCells (a b k : Int) (name : ByteArray) (anti : Bool) (A1 A2 A3 A4 A5 A6 A7 : Option Addr) (l1 c1 l2 c2 l3 c3 l4 c4 l5 c5 l6 c6 l7 c7 : Nat) : List Value :=
  inNode ⟨#[97]⟩ a ++ (inNode ⟨#[98]⟩ b ++ [.int .i64 5, .int .i64 0, .int .i64 1, .int .i64 k, .string name, .bool anti, .slice A1 l1 c1, .slice A2 l2 c2, .slice A3 l3 c3, .slice A4 l4 c4, .slice A5 l5 c5, .slice A6 l6 c6, .slice A7 l7 c7])
theorem width_at (a b : Int) (k : Int) (name : ByteArray) (anti : Bool) (A1 A2 A3 A4 A5 A6 A7 : Option Addr) (c1 c2 l3 c3 l4 c4 l5 c5 l6 c6 l7 c7 : Nat) (cols others : List Int) (w W : World)
    (hE : Ext (w.alloc (.cells (planCells a b k name anti A1 A2 A3 A4 A5 A6 A7 cols.length c1 others.length c2 l3 c3 l4 c4 l5 c5 l6 c6 l7 c7).toArray 28)) W)
    (h1 : RdI w AnyB (.slice A1 cols.length c1) cols) (h2 : RdI w AnyB (.slice A2 others.length c2) others) (ha : i64 a) (hb : i64 b) :
    Calls Tryz.prog 40 #[.slice (some ⟨w.heap.size, 0, none⟩) 3 3] W fun e w' => e = .returned (.int .i64 (widthN cols others a b)) ∧ Below w.heap.size w w' := by
  have hE0 : Ext w W := Ext.trans (Ext.alloc (Ext.refl w) _) hE
  refine (width_any w.heap.size a b k name anti A1 A2 A3 A4 A5 A6 A7 c1 c2 l3 c3 l4 c4 l5 c5 l6 c6 l7 c7 cols others W (h1.ext hE0.below) (h2.ext hE0.below) ha hb (NdC.of hE 0 fun j u hj => ?_) (NdC.of hE 13 fun j u hj => ?_) (NdC.of hE 26 fun j u hj => ?_)).mono fun e w' ⟨h3, h4⟩ => ⟨h3, hE0.below.trans (h4.mono hE0.size)⟩
  · have hl := (List.getElem?_eq_some_iff.1 hj).1
    unfold planCells
    rw [Nat.zero_add, List.getElem?_append_left hl]; exact hj
  · have hl := (List.getElem?_eq_some_iff.1 hj).1
    unfold planCells
    rw [List.getElem?_append_right (by show 13 ≤ 13 + j; omega), List.getElem?_append_left (by show 13 + j - 13 < 13; have h13 : j < 13 := hl; omega)]
    rw [← hj]; congr 1; show 13 + j - 13 = j; omega
  · unfold planCells
    rw [List.getElem?_append_right (by show 13 ≤ 26 + j; omega), List.getElem?_append_right (by show 13 ≤ 26 + j - 13; omega)]
    rw [← hj]; congr 1; show 26 + j - 13 - 13 = j; omega
/-- join.Op in block b: its columns, widths and spines, whose rows of batches lie apart. -/
def JAt (b bl br : Nat) (w : World) (lc rc : List Int) (wl wr broken : Int) (SL SR : GS) : Prop := ∃ (PL PR : Nat → Prop) (lv rv : Value), w.heap[b]? = some (.cells #[lv, .int .i64 wl, .pointer (some ⟨bl, 0, none⟩), rv, .int .i64 wr, .pointer (some ⟨br, 0, none⟩), .int .i64 broken] 74 (0, 0)) ∧
  RdI w (Fresh 0 [3]) lv lc ∧ RdI w (Fresh 0 [3]) rv rc ∧ SpAt PL bl w SL ∧ SpAt PR br w SR ∧ bl ≠ br ∧ (∀ k, PL k → k < w.heap.size) ∧ (∀ k, PR k → k < w.heap.size) ∧ ∀ k, PL k → ¬ PR k
theorem SpAt.apart {P Q : Nat → Prop} {b b2 : Nat} {w w' : World} {S : GS} (h : SpAt Q b w S) (hm : Mut P b2 w w') {cs : Array Value} {fr : Nat × Nat} (hb2 : w.heap[b2]? = some (.cells cs 136 fr)) (hne : b ≠ b2) (hd : ∀ k, k < w.heap.size → Q k → ¬ P k) : SpAt Q b w' S := by
  obtain ⟨u, bv, h1, h2, h3, h4⟩ := h
  refine ⟨u, bv, hm.block b _ h1 hne (.inr fun c fz e => by injection e with _ e2 _; revert e2; decide), h2.mv (hm.stays hb2 fresh_cols), ?_, h4⟩
  have h5 := h3.imp fun _ _ e => EBt.mv e (hm.stays hb2 rowB_own)
  obtain ⟨ds, ho, hr, hone, hl⟩ := h5
  refine ⟨ds, ⟨ho.1, ?_⟩, hr, hone, hl⟩
  rcases ho.2 with h6 | ⟨g, cap, cur, hv, hb, hg, hrest⟩
  · exact .inl h6
  · have hlt := (Array.getElem?_eq_some_iff.1 hg).1
    have hq : Q g := h4 g (by rw [hv]; rfl)
    refine .inr ⟨g, cap, cur, hv, hb, hm.block g _ hg (fun e => ?_) (.inl (hd g hlt hq)), hrest⟩
    subst e
    have := tag_eq hg hb2
    revert this
    decide
theorem SpAt.head {P : Nat → Prop} {b : Nat} {w : World} {S : GS} (h : SpAt P b w S) : ∃ cs, w.heap[b]? = some (.cells cs 136 (0, 0)) := let ⟨_, _, h1, _⟩ := h; ⟨_, h1⟩
section
variable {b bl br : Nat} {w w' : World} {lc rc : List Int} {wl wr broken : Int} {SL SR : GS}
theorem JAt.ext (h : JAt b bl br w lc rc wl wr broken SL SR) (hb : Below w.heap.size w w') : JAt b bl br w' lc rc wl wr broken SL SR := by
  obtain ⟨PL, PR, lv, rv, h1, h2, h3, h4, h5, h6, h7, h8, h9⟩ := h
  exact ⟨PL, PR, lv, rv, (hb.block b (Array.getElem?_eq_some_iff.1 h1).1).trans h1, h2.ext hb, h3.ext hb, h4.ext hb, h5.ext hb, h6, fun k hk => Nat.lt_of_lt_of_le (h7 k hk) hb.size, fun k hk => Nat.lt_of_lt_of_le (h8 k hk) hb.size, h9⟩
/-- A change of the left spine. -/
theorem JAt.left (h : JAt b bl br w lc rc wl wr broken SL SR) : ∃ P : Nat → Prop, (∀ k, w.heap.size ≤ k → P k) ∧ SpAt P bl w SL ∧ ∀ w' SL', SpAt P bl w' SL' → Mut P bl w w' → JAt b bl br w' lc rc wl wr broken SL' SR := by
  obtain ⟨PL, PR, lv, rv, h1, h2, h3, h4, h5, h6, h7, h8, h9⟩ := h
  refine ⟨fun k => PL k ∨ w.heap.size ≤ k, fun k hk => .inr hk, h4.mono fun k _ hk => .inl hk, fun w' SL' hs hm => ?_⟩
  obtain ⟨cs, hb⟩ := h4.head
  refine ⟨fun k => (PL k ∨ w.heap.size ≤ k) ∧ k < w'.heap.size, PR, lv, rv, hm.block b _ h1 (fun e => ?_) (.inr fun c fz e => by injection e with _ e2 _; revert e2; decide), h2.mv (hm.stays hb fresh_cols), h3.mv (hm.stays hb fresh_cols), hs.mono fun k hk hp => ⟨hp, hk⟩, h5.apart hm hb (fun e => h6 e.symm) (fun k hk hq hp => ?_), h6, fun k hk => hk.2, fun k hk => Nat.lt_of_lt_of_le (h8 k hk) hm.size, fun k hk hq => ?_⟩
  · subst e
    have := tag_eq h1 hb
    revert this
    decide
  · rcases hp with hp | hp
    · exact h9 k hp hq
    · omega
  · rcases hk.1 with hp | hp
    · exact h9 k hp hq
    · have := h8 k hq
      omega
/-- A change of the right spine. -/
theorem JAt.right (h : JAt b bl br w lc rc wl wr broken SL SR) : ∃ P : Nat → Prop, (∀ k, w.heap.size ≤ k → P k) ∧ SpAt P br w SR ∧ ∀ w' SR', SpAt P br w' SR' → Mut P br w w' → JAt b bl br w' lc rc wl wr broken SL SR' := by
  obtain ⟨PL, PR, lv, rv, h1, h2, h3, h4, h5, h6, h7, h8, h9⟩ := h
  refine ⟨fun k => PR k ∨ w.heap.size ≤ k, fun k hk => .inr hk, h5.mono fun k _ hk => .inl hk, fun w' SR' hs hm => ?_⟩
  obtain ⟨cs, hb⟩ := h5.head
  refine ⟨PL, fun k => (PR k ∨ w.heap.size ≤ k) ∧ k < w'.heap.size, lv, rv, hm.block b _ h1 (fun e => ?_) (.inr fun c fz e => by injection e with _ e2 _; revert e2; decide), h2.mv (hm.stays hb fresh_cols), h3.mv (hm.stays hb fresh_cols), h4.apart hm hb h6 (fun k hk hq hp => ?_), hs.mono fun k hk hp => ⟨hp, hk⟩, h6, fun k hk => Nat.lt_of_lt_of_le (h7 k hk) hm.size, fun k hk => hk.2, fun k hk hq => ?_⟩
  · subst e
    have := tag_eq h1 hb
    revert this
    decide
  · rcases hp with hp | hp
    · exact h9 k hq hp
    · omega
  · rcases hq.1 with hp | hp
    · exact h9 k hk hp
    · have := h7 k hk
      omega
end
/-- A join.Op that New has made: two new spines. -/
def JNew (b bl br : Nat) (w : World) (lc rc : List Int) (wl wr : Int) : Prop := bl ≠ br ∧ ∃ (lv rv : Value), w.heap[b]? = some (.cells #[lv, .int .i64 wl, .pointer (some ⟨bl, 0, none⟩), rv, .int .i64 wr, .pointer (some ⟨br, 0, none⟩), .int .i64 0] 74 (0, 0)) ∧
  RdI w (Fresh 0 [3]) lv lc ∧ RdI w (Fresh 0 [3]) rv rc ∧ SpAt (fun _ => False) bl w ⟨lc, [], 0⟩ ∧ SpAt (fun _ => False) br w ⟨rc, [], 0⟩
theorem JNew.at {b bl br : Nat} {w : World} {lc rc : List Int} {wl wr : Int} (h : JNew b bl br w lc rc wl wr) : JAt b bl br w lc rc wl wr 0 ⟨lc, [], 0⟩ ⟨rc, [], 0⟩ := by
  obtain ⟨h6, lv, rv, h1, h2, h3, h4, h5⟩ := h
  exact ⟨_, _, lv, rv, h1, h2, h3, h4, h5, h6, fun k h => h.elim, fun k h => h.elim, fun k h => h.elim⟩
theorem JAt.new {n n5 n6 bl br : Nat} {w3 w4 w6 : World} {lc rc : List Int} {wl wr : Int} {lv rv : Value} (h3 : NewAt n w3 bl lc) (h34 : Below w3.heap.size w3 w4) (h4 : NewAt w3.heap.size w4 br rc) (h46 : Below w4.heap.size w4 w6) (h5 : RdI w6 (Fresh n5 [3]) lv lc) (h6 : RdI w6 (Fresh n6 [3]) rv rc) :
    JNew w6.heap.size bl br (w6.alloc (.cells #[lv, .int .i64 wl, .pointer (some ⟨bl, 0, none⟩), rv, .int .i64 wr, .pointer (some ⟨br, 0, none⟩), .int .i64 0] 74)) lc rc wl wr := by
  have hb := (Below.refl w6.heap.size w6).alloc (Nat.le_refl _) (.cells #[lv, .int .i64 wl, .pointer (some ⟨bl, 0, none⟩), rv, .int .i64 wr, .pointer (some ⟨br, 0, none⟩), .int .i64 0] 74)
  have hlt : bl < w3.heap.size := (h3.sp fun _ => False).lt
  refine ⟨by have := h4.1; omega, lv, rv, heap_alloc_new w6 _, (h5.mv (Stays.mono fun _ _ h => ⟨Nat.zero_le _, h.2⟩)).ext hb, (h6.mv (Stays.mono fun _ _ h => ⟨Nat.zero_le _, h.2⟩)).ext hb, ?_, ?_⟩
  · exact (((h3.sp _).ext h34).ext h46).ext hb
  · exact ((h4.sp _).ext h46).ext hb
/-- What New answers. -/
def NewJPost (op : Int) (widths cols others : List Int) (w : World) (e : Ending) (w' : World) : Prop := Below w.heap.size w w' ∧
  ((e = .returned (.tuple #[.pointer none, .int .i64 40]) ∧ ¬ (op = 5 ∧ ∃ a b, widths = [a, b] ∧ joinOk cols others a b = true)) ∨
   ∃ b bl br x y, op = 5 ∧ widths = [x, y] ∧ joinOk cols others x y = true ∧ w.heap.size ≤ b ∧ w.heap.size ≤ bl ∧ w.heap.size ≤ br ∧ e = .returned (.tuple #[.pointer (some ⟨b, 0, none⟩), .int .i64 0]) ∧ JNew b bl br w' cols others x y)
theorem NewJPost.no {op : Int} {widths cols others : List Int} {w w' : World} (hB : Below w.heap.size w w') (h : ¬ (op = 5 ∧ ∃ a b, widths = [a, b] ∧ joinOk cols others a b = true)) : NewJPost op widths cols others w (.returned (.tuple #[.pointer none, .int .i64 40])) w' := ⟨hB, .inl ⟨rfl, h⟩⟩
theorem joinOk_cols {cols others : List Int} {a b : Int} (h : joinOk cols others a b = true) : colsOk cols = true ∧ colsOk others = true ∧ 0 ≤ a + b := by
  unfold joinOk joinIn colsIn at h
  simp only [Bool.and_eq_true, decide_eq_true_eq, List.all_eq_true] at h
  obtain ⟨⟨⟨⟨ha0, ha1⟩, hb0, hb1⟩, ⟨_, h1, h2⟩, h3, h4⟩, h5⟩ := h
  have key : ∀ (l : List Int) (m : Int), l.length ≤ 1024 → m ≤ 1024 → (∀ c ∈ l, 0 ≤ c ∧ c < m) → colsOk l = true := fun l m hl hm hc => by
    unfold colsOk
    rw [decide_eq_true hl, Bool.true_and, Bool.not_eq_true', List.any_eq_false]
    intro c hc'
    have := hc c hc'
    unfold badCol
    simp
    omega
  exact ⟨key _ _ h1 ha1 h2, key _ _ h3 hb1 h4, by omega⟩
theorem widthN_neg {cols others : List Int} {a b : Int} (h : joinOk cols others a b = false) : widthN cols others a b = -1 := by unfold widthN; rw [h]; rfl
theorem widthN_pos {cols others : List Int} {a b : Int} (h : joinOk cols others a b = true) : widthN cols others a b = a + b := by unfold widthN; rw [h]; rfl
theorem no_join (op : Int) {cols others : List Int} {x y : Int} (hok : joinOk cols others x y = false) : ¬ (op = 5 ∧ ∃ a b, [x, y] = [a, b] ∧ joinOk cols others a b = true) := by
  rintro ⟨-, a, b, e, h⟩
  injection e with e1 e2
  injection e2 with e2
  subst e1 e2
  rw [hok] at h
  cases h
theorem bc {w w' : World} (h : Below w.heap.size w w') {a : Addr} {v : Value} (hc : w.cell? a = some v) : w'.cell? a = some v := (h.cell (World.block_lt_of_cell? w a hc)).trans hc
set_option maxRecDepth 100000 in
set_option maxHeartbeats 4000000 in
theorem jNew_any (op m1 m2 k : Int) (name : ByteArray) (anti : Bool) (A1 A2 A3 A4 A5 A6 A7 : Option Addr) (c1 c2 l3 c3 l4 c4 l5 c5 l6 c6 l7 c7 : Nat) (cols others widths : List Int) (v : Value) (w : World)
    (h1 : RdI w AnyB (.slice A1 cols.length c1) cols) (h2 : RdI w AnyB (.slice A2 others.length c2) others) (hv : RdI w AnyB v widths) :
    Calls Tryz.prog 16 #[.agg #[.int .i64 op, .int .i64 m1, .int .i64 m2, .int .i64 k, .string name, .bool anti, .slice A1 cols.length c1, .slice A2 others.length c2, .slice A3 l3 c3, .slice A4 l4 c4, .slice A5 l5 c5, .slice A6 l6 c6, .slice A7 l7 c7], v] w (NewJPost op widths cols others w) := by
  have mixed := mixed
  obtain ⟨Av, cv, rfl, _⟩ := hv.shape
  have hvl := hv.len
  have HV := As.mk hv
  have H1 := As.mk h1
  have H2 := As.mk h2
  clear h1 h2 hv
  by_cases hop : op = 5
  · subst hop
    by_cases hw2 : widths.length = 2
    · obtain ⟨x, y, rfl⟩ : ∃ x y, widths = [x, y] := by
        match widths, hw2 with
        | [x, y], _ => exact ⟨x, y, rfl⟩
      obtain ⟨bv, ov, cv', hv, hbv, hxi, g0⟩ := HV.out.val (j := 0) (x := x) rfl
      obtain ⟨bv', ov', cv'', hv', _, hyi, g1⟩ := HV.out.val (j := 1) (x := y) rfl
      injection hv with hA _ hcc
      subst hA hcc
      injection hv' with hA _ _
      injection hA with hA
      injection hA with e1 e2 _
      subst e1 e2
      simp only [Nat.add_zero] at g0
      have HXI := As.mk hxi
      have HYI := As.mk hyi
      have HB0 : As (Below w.heap.size w (w.alloc (.cells #[.int .i64 5, .int .i64 0, .int .i64 1, .int .i64 k, .string name, .bool anti, .slice A1 cols.length c1, .slice A2 others.length c2, .slice A3 l3 c3, .slice A4 l4 c4, .slice A5 l5 c5, .slice A6 l6 c6, .slice A7 l7 c7] 28))) := ⟨(Below.refl _ _).alloc (Nat.le_refl _) _⟩
      clear hxi hyi hw2 hvl
      go_enter Tryz.func16, Tryz.ntmps16
      go_wp2_with fail
      obtain ⟨w0, hw0⟩ : ∃ w0, w0 = w.alloc (.cells #[.int .i64 5, .int .i64 0, .int .i64 1, .int .i64 k, .string name, .bool anti, .slice A1 cols.length c1, .slice A2 others.length c2, .slice A3 l3 c3, .slice A4 l4 c4, .slice A5 l5 c5, .slice A6 l6 c6, .slice A7 l7 c7] 28) := ⟨_, rfl⟩
      have q0 : w0.cell? ⟨w.heap.size, 0, none⟩ = some (.int .i64 5) := by (rw [hw0]; simp)
      have q1 : w0.cell? ⟨w.heap.size, 1, none⟩ = some (.int .i64 0) := by (rw [hw0]; simp)
      have q2 : w0.cell? ⟨w.heap.size, 2, none⟩ = some (.int .i64 1) := by (rw [hw0]; simp)
      have q3 : w0.cell? ⟨w.heap.size, 3, none⟩ = some (.int .i64 k) := by (rw [hw0]; simp)
      have q4 : w0.cell? ⟨w.heap.size, 4, none⟩ = some (.string name) := by (rw [hw0]; simp)
      have q5 : w0.cell? ⟨w.heap.size, 5, none⟩ = some (.bool anti) := by (rw [hw0]; simp)
      have q6 : w0.cell? ⟨w.heap.size, 6, none⟩ = some (.slice A1 cols.length c1) := by (rw [hw0]; simp)
      have q7 : w0.cell? ⟨w.heap.size, 7, none⟩ = some (.slice A2 others.length c2) := by (rw [hw0]; simp)
      have q8 : w0.cell? ⟨w.heap.size, 8, none⟩ = some (.slice A3 l3 c3) := by (rw [hw0]; simp)
      have q9 : w0.cell? ⟨w.heap.size, 9, none⟩ = some (.slice A4 l4 c4) := by (rw [hw0]; simp)
      have q10 : w0.cell? ⟨w.heap.size, 10, none⟩ = some (.slice A5 l5 c5) := by (rw [hw0]; simp)
      have q11 : w0.cell? ⟨w.heap.size, 11, none⟩ = some (.slice A6 l6 c6) := by (rw [hw0]; simp)
      have q12 : w0.cell? ⟨w.heap.size, 12, none⟩ = some (.slice A7 l7 c7) := by (rw [hw0]; simp)
      have hE0 : Ext w w0 := hw0 ▸ Ext.alloc (Ext.refl w) _
      have f0 := hE0.cell g0
      have f1 := hE0.cell g1
      have HWD := As.mk (fun W (hE : Ext (w0.alloc (.cells (planCells x y k name anti A1 A2 A3 A4 A5 A6 A7 cols.length c1 others.length c2 l3 c3 l4 c4 l5 c5 l6 c6 l7 c7).toArray 28)) W) => width_at x y k name anti A1 A2 A3 A4 A5 A6 A7 c1 c2 l3 c3 l4 c4 l5 c5 l6 c6 l7 c7 cols others w0 W hE (H1.out.ext hE0.below) (H2.out.ext hE0.below) HXI.out HYI.out)
      have HE0 := As.mk hE0
      rw [← hw0]
      rw [← hw0] at HB0
      have hsz : w.heap.size < w0.heap.size := cell_lt q0
      clear hw0 hE0 g0 g1
      have hN : widthN cols others x y < 0 ∨ 0 ≤ widthN cols others x y := by omega
      generalize hwn : widthN cols others x y = wn at *
      go_region_held3 (fun w' => w'.cell? ⟨bv, ov, none⟩ = some (.int .i64 x) ∧ w'.cell? ⟨bv, ov + 1, none⟩ = some (.int .i64 y) ∧ w'.cell? ⟨w.heap.size, 0, none⟩ = some (.int .i64 5) ∧ w'.cell? ⟨w.heap.size, 1, none⟩ = some (.int .i64 0) ∧ w'.cell? ⟨w.heap.size, 2, none⟩ = some (.int .i64 1) ∧ w'.cell? ⟨w.heap.size, 3, none⟩ = some (.int .i64 k) ∧ w'.cell? ⟨w.heap.size, 4, none⟩ = some (.string name) ∧ w'.cell? ⟨w.heap.size, 5, none⟩ = some (.bool anti) ∧ w'.cell? ⟨w.heap.size, 6, none⟩ = some (.slice A1 cols.length c1) ∧ w'.cell? ⟨w.heap.size, 7, none⟩ = some (.slice A2 others.length c2) ∧ w'.cell? ⟨w.heap.size, 8, none⟩ = some (.slice A3 l3 c3) ∧ w'.cell? ⟨w.heap.size, 9, none⟩ = some (.slice A4 l4 c4) ∧ w'.cell? ⟨w.heap.size, 10, none⟩ = some (.slice A5 l5 c5) ∧ w'.cell? ⟨w.heap.size, 11, none⟩ = some (.slice A6 l6 c6) ∧ w'.cell? ⟨w.heap.size, 12, none⟩ = some (.slice A7 l7 c7)) (first | go_keep | (refine ⟨?_, ?_, ?_, ?_, ?_, ?_, ?_, ?_, ?_, ?_, ?_, ?_, ?_, ?_, ?_⟩ <;> exact bc hB2 (by assumption))) ((go_at_call 40; refine (HWD.out _ (by first | exact Ext.refl _ | exact Ext.drew (Ext.refl _))).mono ?_; rintro e w2 ⟨rfl, hB2⟩))
      have HB2 := As.mk (HB0.out.trans (hB2.mono (Nat.le_of_lt hsz)))
      rename_i hH
      obtain ⟨r0, r1, p0, p1, p2, p3, p4, p5, p6, p7, p8, p9, p10, p11, p12⟩ := hH
      clear q0 q1 q2 q3 q4 q5 q6 q7 q8 q9 q10 q11 q12 f0 f1 p0 p1 p2 p3 p4 p5 p8 p9 p10 p11 p12 HWD
      have H1 : As (RdI w2 AnyB (.slice A1 cols.length c1) cols) := ⟨H1.out.ext HB2.out⟩
      have H2 : As (RdI w2 AnyB (.slice A2 others.length c2) others) := ⟨H2.out.ext HB2.out⟩
      by_cases hok : joinOk cols others x y = true
      · have hx0 := joinOk_cols hok
        rw [widthN_pos hok] at hwn
        rw [decide_eq_false (by omega : ¬ wn < 0)]
        have HOK := As.mk hok
        have HN1 := As.mk (fun W (hE : Below w2.heap.size w2 W) => spNew_good _ cols W (H1.out.ext hE) hx0.1)
        have HN2 := As.mk (fun W (hE : Below w2.heap.size w2 W) => spNew_good _ others W (H2.out.ext hE) hx0.2.1)
        have HC1 := As.mk (fun W (hE : Below w2.heap.size w2 W) => cloneInt_any _ cols W (H1.out.ext hE))
        have HC2 := As.mk (fun W (hE : Below w2.heap.size w2 W) => cloneInt_any _ others W (H2.out.ext hE))
        clear H1 H2 hok hx0 hwn hN hB2
        go_wp2_with (go_at_call 41; first | ((with_reducible refine (HN1.out _ (Below.refl _ _)).mono ?_); rintro e w3 ⟨bl, rfl, hn3, hB3⟩; have HN3 := As.mk hn3; have p7 := bc hB3 p7; have p6 := bc hB3 p6; have r0 := bc hB3 r0; have r1 := bc hB3 r1; have HB3 := As.mk hB3; clear hn3 hB3) | ((with_reducible refine (HN2.out _ HB3.out).mono ?_); rintro e w4 ⟨br, rfl, hn4, hB4⟩; have HN4 := As.mk hn4; have p7 := bc hB4 p7; have p6 := bc hB4 p6; have r0 := bc hB4 r0; have r1 := bc hB4 r1; have HB34 := As.mk hB4; have HB4 := As.mk (HB3.out.trans (hB4.mono HB3.out.size)); clear hn4 hB4))
        have HS4 := HB4.out.size
        have hF0 : Below w4.heap.size w4 w4 := Below.refl _ _
        have hF1 := (Ext.drew (Ext.refl w4)).below
        have HC1 := As.mk (fun W (hE : Below w4.heap.size w4 W) => HC1.out W (HB4.out.trans (hE.mono HS4)))
        have HC2 := As.mk (fun W (hE : Below w4.heap.size w4 W) => HC2.out W (HB4.out.trans (hE.mono HS4)))
        clear HN1 HN2
        go_region_held3 (fun w' => w'.cell? ⟨bv, ov, none⟩ = some (.int .i64 x) ∧ w'.cell? ⟨bv, ov + 1, none⟩ = some (.int .i64 y) ∧ w'.cell? ⟨w.heap.size, 6, none⟩ = some (.slice A1 cols.length c1) ∧ w'.cell? ⟨w.heap.size, 7, none⟩ = some (.slice A2 others.length c2)) (first | go_keep | (exact ⟨(Below.cell (by assumption) (World.block_lt_of_cell? w4 _ r0)).trans r0, (Below.cell (by assumption) (World.block_lt_of_cell? w4 _ r1)).trans r1, (Below.cell (by assumption) (World.block_lt_of_cell? w4 _ p6)).trans p6, (Below.cell (by assumption) (World.block_lt_of_cell? w4 _ p7)).trans p7⟩)) ((go_at_call 42; first | ((with_reducible refine (HC1.out _ hF1).mono ?_); rintro e w5 ⟨u1, rfl, hu1, hB5⟩; have hB5 := hF1.trans (hB5.mono hF1.size); obtain ⟨B1, d1, rfl, _⟩ := hu1.shape; have HU1 := As.mk hu1; clear hu1) | ((with_reducible refine (HC2.out _ hB5).mono ?_); rintro e w6 ⟨u2, rfl, hu2, hB56⟩; have hB6 := hB5.trans (hB56.mono hB5.size); obtain ⟨B2, d2, rfl, _⟩ := hu2.shape; have HU2 := As.mk hu2; have HB56 := As.mk hB56; clear hu2 hB56)))
        have HB6 := As.mk hB6
        clear hB6 hB5 hF0 hF1
        go_wp2_with fail
        go_ret2
        have hB6' := HB4.out.trans (HB6.out.mono HS4)
        have hB7 : Below w.heap.size w (w6.alloc (.cells #[.slice B1 cols.length d1, .int .i64 x, .pointer (some ⟨bl, 0, none⟩), .slice B2 others.length d2, .int .i64 y, .pointer (some ⟨br, 0, none⟩), .int .i64 0] 74)) := (HB2.out.trans (hB6'.mono HB2.out.size)).alloc (Nat.le_trans HB2.out.size hB6'.size) _
        refine ⟨hB7, .inr ⟨w6.heap.size, bl, br, x, y, rfl, rfl, HOK.out, Nat.le_trans HB2.out.size hB6'.size, Nat.le_trans HB2.out.size HN3.out.1, Nat.le_trans (Nat.le_trans HB2.out.size HB3.out.size) HN4.out.1, rfl, ?_⟩⟩
        exact JAt.new HN3.out HB34.out HN4.out HB6.out (HU1.out.ext HB56.out) HU2.out
      · rw [Bool.not_eq_true] at hok
        have hn := widthN_neg hok
        rw [hwn] at hn
        subst hn
        go_wp2_with fail
        go_ret2
        exact NewJPost.no HB2.out (no_join 5 hok)
    · have hn : ¬ (5 = (5 : Int) ∧ ∃ a b, widths = [a, b] ∧ joinOk cols others a b = true) := by
        rintro ⟨-, a, b, e, h⟩
        subst e
        exact hw2 rfl
      have hl2 : ¬ (widths.length : Int) = 2 := by omega
      have HNO := As.mk (fun W (hB : Below w.heap.size w W) => NewJPost.no hB hn)
      have HB0 : As (Below w.heap.size w (w.alloc (.cells #[.int .i64 5, .int .i64 m1, .int .i64 m2, .int .i64 k, .string name, .bool anti, .slice A1 cols.length c1, .slice A2 others.length c2, .slice A3 l3 c3, .slice A4 l4 c4, .slice A5 l5 c5, .slice A6 l6 c6, .slice A7 l7 c7] 28))) := ⟨(Below.refl _ _).alloc (Nat.le_refl _) _⟩
      clear hn hw2
      go_enter Tryz.func16, Tryz.ntmps16
      go_wp2_with fail
      go_ret2
      exact HNO.out _ HB0.out
  · have HNO := As.mk (fun W (hB : Below w.heap.size w W) => NewJPost.no (widths := widths) (cols := cols) (others := others) hB (fun h => hop h.1))
    have HB0 : As (Below w.heap.size w (w.alloc (.cells #[.int .i64 op, .int .i64 m1, .int .i64 m2, .int .i64 k, .string name, .bool anti, .slice A1 cols.length c1, .slice A2 others.length c2, .slice A3 l3 c3, .slice A4 l4 c4, .slice A5 l5 c5, .slice A6 l6 c6, .slice A7 l7 c7] 28))) := ⟨(Below.refl _ _).alloc (Nat.le_refl _) _⟩
    go_enter Tryz.func16, Tryz.ntmps16
    go_wp2_with fail
    go_ret2
    exact HNO.out _ HB0.out
end Go.Proofs.YtflckpfpgpfjlaaGreatDoor
