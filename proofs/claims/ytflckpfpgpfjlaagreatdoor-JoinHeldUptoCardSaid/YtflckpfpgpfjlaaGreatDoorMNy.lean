/- The walk of the reference's New of a join. -/
import Derived.Test.YtflckpfpgpfjlaaGreatDoorMNw
import Derived.Test.YtflckpfpgpfjlaaGreatDoorMNj
set_option linter.unusedVariables false
set_option linter.unusedSimpArgs false
namespace Go.Proofs.YtflckpfpgpfjlaaGreatDoor
open Go.RowKit Go.Sort
def NotJ (op : Int) (widths cols others : List Int) : Prop := ¬ (op = 5 ∧ ∃ x y, widths = [x, y] ∧ joinOk cols others x y = true)
def R8New (op : Int) (widths cols others : List Int) (w : World) (e : Ending) (w' : World) : Prop := Below w.heap.size w w' ∧
  ((NotJ op widths cols others ∧ e = .returned (.tuple #[.pointer none, .int .i64 40])) ∨
   (∃ (base ub gb : Nat) (x y at0 at1 : Int) (B1 B2 : Option Addr) (d1 d2 : Nat), op = 5 ∧ widths = [x, y] ∧ joinOk cols others x y = true ∧ e = .returned (.tuple #[.pointer (some ⟨ub, 0, none⟩), .int .i64 0]) ∧ w.heap.size ≤ base ∧ base ≤ ub ∧ base ≤ gb ∧
     ROp base ub gb w' (JNd at0 at1 B1 B2 d1 d2 cols others) [x, y] [[], []] [] 0 ∧ RdI w' IB (.slice B1 cols.length d1) cols ∧ RdI w' IB (.slice B2 others.length d2) others))
def NewSt (w : World) (nb xb : Nat) (x y nk : Int) (name : ByteArray) (anti : Bool) (A1 A2 A4 A5 A6 A7 : Option Addr) (l1 c1 l2 c2 l4 c4 l5 c5 l6 c6 l7 c7 : Nat) (i : Nat) (v : Value) (W : World) : Prop :=
  Below w.heap.size w W ∧ w.heap.size ≤ nb ∧ nb ≤ xb ∧ ∃ (A3 : Option Addr) (c3 : Nat) (ks : List Int), ks.length = i ∧ W.heap[xb]? = some (.cells #[.int .i64 5, .int .i64 0, .int .i64 1, .int .i64 nk, .string name, .bool anti, .slice A1 l1 c1, .slice A2 l2 c2, .slice A3 i c3, .slice A4 l4 c4, .slice A5 l5 c5, .slice A6 l6 c6, .slice A7 l7 c7] 28 (0, 0)) ∧
    OwnL 1 EI 3 W nb (.slice A3 i c3) ks ∧ OwnL 13 EN 28 W nb v ([inNode ⟨#[120]⟩ x, inNode ⟨#[120]⟩ y].take i) ∧ ∀ k, v.ownBlock = some k → k ≠ xb
theorem NewSt.one {w W w2 : World} {nb xb : Nat} {x y nk : Int} {name : ByteArray} {anti : Bool} {A1 A2 A4 A5 A6 A7 : Option Addr} {l1 c1 l2 c2 l4 c4 l5 c5 l6 c6 l7 c7 i : Nat} {v : Value} (h : NewSt w nb xb x y nk name anti A1 A2 A4 A5 A6 A7 l1 c1 l2 c2 l4 c4 l5 c5 l6 c6 l7 c7 i v W) (hg : W.grownBy w2 v.ownBlock) :
    Below w.heap.size w w2 ∧ ∃ (A3 : Option Addr) (c3 : Nat) (ks : List Int), ks.length = i ∧ w2.heap[xb]? = some (.cells #[.int .i64 5, .int .i64 0, .int .i64 1, .int .i64 nk, .string name, .bool anti, .slice A1 l1 c1, .slice A2 l2 c2, .slice A3 i c3, .slice A4 l4 c4, .slice A5 l5 c5, .slice A6 l6 c6, .slice A7 l7 c7] 28 (0, 0)) ∧ OwnL 1 EI 3 w2 nb (.slice A3 i c3) ks := by
  obtain ⟨h1, h2, h3, A3, c3, ks, h4, h5, h6, h7, h8⟩ := h
  exact ⟨h1.grown hg h1.size fun k hk => Nat.le_trans h2 (h7.lt k hk).1, A3, c3, ks, h4, (hg.block xb (Array.getElem?_eq_some_iff.1 h5).1 fun e => h8 xb e.symm rfl).trans h5, h6.kept hg (own_ne h6 h7 (by decide))⟩
theorem NewSt.two {w w2 w3 : World} {nb xb : Nat} {x y nk : Int} {name : ByteArray} {anti : Bool} {A1 A2 A3 A3' A4 A5 A6 A7 : Option Addr} {l1 c1 l2 c2 c3 c3' l4 c4 l5 c5 l6 c6 l7 c7 i : Nat} {v1 : Value} {ks ks' : List Int} (hw : Below w.heap.size w w2) (h2 : w.heap.size ≤ nb) (h3 : nb ≤ xb) (hx : w2.heap[xb]? = some (.cells #[.int .i64 5, .int .i64 0, .int .i64 1, .int .i64 nk, .string name, .bool anti, .slice A1 l1 c1, .slice A2 l2 c2, .slice A3 i c3, .slice A4 l4 c4, .slice A5 l5 c5, .slice A6 l6 c6, .slice A7 l7 c7] 28 (0, 0)))
    (ho : OwnL 1 EI 3 w2 nb (.slice A3 i c3) ks) (hv : OwnL 13 EN 28 w2 nb v1 ([inNode ⟨#[120]⟩ x, inNode ⟨#[120]⟩ y].take (i + 1))) (hne : ∀ k, v1.ownBlock = some k → k ≠ xb) (hg : w2.grownBy w3 (Value.slice A3 i c3).ownBlock) (hk : ks'.length = i + 1) (ho3 : OwnL 1 EI 3 w3 nb (.slice A3' (i + 1) c3') ks') :
    w3.heap[xb]? = some (.cells #[.int .i64 5, .int .i64 0, .int .i64 1, .int .i64 nk, .string name, .bool anti, .slice A1 l1 c1, .slice A2 l2 c2, .slice A3 i c3, .slice A4 l4 c4, .slice A5 l5 c5, .slice A6 l6 c6, .slice A7 l7 c7] 28 (0, 0)) ∧ Below w.heap.size w w3 ∧
    NewSt w nb xb x y nk name anti A1 A2 A4 A5 A6 A7 l1 c1 l2 c2 l4 c4 l5 c5 l6 c6 l7 c7 (i + 1) v1 (w3.setCell ⟨xb, 8, none⟩ (.slice A3' (i + 1) c3')) := by
  have hx3 := (hg.block xb (Array.getElem?_eq_some_iff.1 hx).1 fun e => by obtain ⟨c, hc⟩ := ho.typed xb e.symm; exact tags_ne hc hx (by decide)).trans hx
  have hw3 : Below w.heap.size w w3 := hw.grown hg hw.size fun k hk => Nat.le_trans h2 (ho.lt k hk).1
  have hv3 := hv.kept hg (own_ne hv ho (by decide))
  refine ⟨hx3, hw3, below_set' hw3 (Nat.le_trans h2 h3), h2, h3, A3', c3', ks', hk, heap_setCell_same _ xb 8 _ 28 _ hx3, ho3.setOther hx3 (by decide), hv3.held fun k c hk hh => ?_, hne⟩
  rw [heap_setCell_other _ ⟨xb, 8, none⟩ k _ (hne k hk)]; exact hh
def EZ0 (d : List GE) (cs : List Value) : Prop := d = [] ∧ cs = [.slice none 0 0]
theorem EZ0.ez {d : List GE} {cs : List Value} (W : World) (h : EZ0 d cs) : EZ W EBk d cs := by
  obtain ⟨rfl, rfl⟩ := h
  exact ⟨_, rfl, RdL.nil _ _ _ _⟩
def NW2 (w : World) (at0 at1 : Int) (B1 B2 : Option Addr) (d1 d2 l1 l2 : Nat) (ws : List Int) (j : Nat) (V G : Value) (W : World) : Prop :=
  Below w.heap.size w W ∧ W.heap[w.heap.size]? = some (.cells #[.int .i64 5, .int .i64 at0, .int .i64 at1, .int .i64 0, .string ⟨#[]⟩, .bool false, .slice B1 l1 d1, .slice B2 l2 d2, .slice none 0 0, .slice none 0 0, .slice none 0 0, .slice none 0 0, .slice none 0 0, V, G, .slice none 0 0, .int .i64 0] 100 (0, 0)) ∧
    OwnL 1 EI 3 W w.heap.size V ws ∧ OwnL 1 EZ0 35 W w.heap.size G (List.replicate j [])
section
variable {w W W2 : World} {at0 at1 : Int} {B1 B2 : Option Addr} {d1 d2 l1 l2 : Nat} {ws : List Int} {j : Nat} {V G : Value}
theorem NW2.ext (h : NW2 w at0 at1 B1 B2 d1 d2 l1 l2 ws j V G W) (hb : Below W.heap.size W W2) : NW2 w at0 at1 B1 B2 d1 d2 l1 l2 ws j V G W2 :=
  let ⟨h1, h2, h3, h4⟩ := h; ⟨h1.trans (hb.mono h1.size), (hb.block _ (Array.getElem?_eq_some_iff.1 h2).1).trans h2, h3.below hb, h4.below hb⟩
theorem NW2.push1 (h : NW2 w at0 at1 B1 B2 d1 d2 l1 l2 ws j V G W) (hg : W.grownBy W2 V.ownBlock) {V' : Value} {ws' : List Int} (ho : OwnL 1 EI 3 W2 w.heap.size V' ws') :
    (∀ k u, W.cell? ⟨w.heap.size, k, none⟩ = some u → W2.cell? ⟨w.heap.size, k, none⟩ = some u) ∧ (∃ cs, W2.heap[w.heap.size]? = some (.cells cs 100 (0, 0))) ∧ NW2 w at0 at1 B1 B2 d1 d2 l1 l2 ws' j V' G (W2.setCell ⟨w.heap.size, 13, none⟩ V') := by
  obtain ⟨h1, h2, h3, h4⟩ := h
  have hx := (hg.block w.heap.size (Array.getElem?_eq_some_iff.1 h2).1 fun e => by obtain ⟨c, hc⟩ := h3.typed _ e.symm; exact tags_ne hc h2 (by decide)).trans h2
  refine ⟨fun k u hu => ?_, ⟨_, hx⟩, below_set' (h1.grown hg h1.size fun k hk => (h3.lt k hk).1) (Nat.le_refl _), heap_setCell_same _ _ 13 _ 100 _ hx, ho.setOther hx (by decide), (h4.kept hg (own_ne h4 h3 (by decide))).setOther hx (by decide)⟩
  rw [Lib.cell_of_heap h2] at hu
  rw [Lib.cell_of_heap hx]
  exact hu
theorem NW2.push2 (h : NW2 w at0 at1 B1 B2 d1 d2 l1 l2 ws j V G W) (hg : W.grownBy W2 G.ownBlock) {G' : Value} (ho : OwnL 1 EZ0 35 W2 w.heap.size G' (List.replicate j [] ++ [[]])) :
    (∀ k u, W.cell? ⟨w.heap.size, k, none⟩ = some u → W2.cell? ⟨w.heap.size, k, none⟩ = some u) ∧ (∃ cs, W2.heap[w.heap.size]? = some (.cells cs 100 (0, 0))) ∧ NW2 w at0 at1 B1 B2 d1 d2 l1 l2 ws (j + 1) V G' (W2.setCell ⟨w.heap.size, 14, none⟩ G') := by
  obtain ⟨h1, h2, h3, h4⟩ := h
  have hx := (hg.block w.heap.size (Array.getElem?_eq_some_iff.1 h2).1 fun e => by obtain ⟨c, hc⟩ := h4.typed _ e.symm; exact tags_ne hc h2 (by decide)).trans h2
  refine ⟨fun k u hu => ?_, ⟨_, hx⟩, below_set' (h1.grown hg h1.size fun k hk => (h4.lt k hk).1) (Nat.le_refl _), heap_setCell_same _ _ 14 _ 100 _ hx, (h3.kept hg (own_ne h3 h4 (by decide))).setOther hx (by decide), OwnL.setOther (by rw [List.replicate_succ']; exact ho) hx (by decide)⟩
  rw [Lib.cell_of_heap h2] at hu
  rw [Lib.cell_of_heap hx]
  exact hu
theorem NW2.cells (h : NW2 w at0 at1 B1 B2 d1 d2 l1 l2 ws j V G W) : W.cell? ⟨w.heap.size, 13, none⟩ = some V ∧ W.cell? ⟨w.heap.size, 14, none⟩ = some G := by
  obtain ⟨h1, h2, h3, h4⟩ := h
  constructor <;> rw [Lib.cell_of_heap h2] <;> rfl
theorem NW2.op {cols others : List Int} {x y : Int} (h : NW2 w at0 at1 B1 B2 d1 d2 cols.length others.length [x, y] 2 V G W) (h1 : RdI w IB (.slice B1 cols.length d1) cols) (h2 : RdI w IB (.slice B2 others.length d2) others) :
    ∃ gb, w.heap.size ≤ gb ∧ ROp w.heap.size w.heap.size gb W (JNd at0 at1 B1 B2 d1 d2 cols others) [x, y] [[], []] [] 0 ∧ RdI W IB (.slice B1 cols.length d1) cols ∧ RdI W IB (.slice B2 others.length d2) others := by
  obtain ⟨hb, hx, hv, hg⟩ := h
  obtain ⟨V', vc, rfl, _⟩ := hv.shape
  obtain ⟨G', gc, rfl, _⟩ := hg.shape
  obtain ⟨gb, hgb, hgk⟩ : ∃ gb, w.heap.size ≤ gb ∧ ∀ k, (Value.slice G' 2 gc).ownBlock = some k → k = gb := by
    cases hk : (Value.slice G' 2 gc).ownBlock with
    | none => exact ⟨w.heap.size, Nat.le_refl _, fun k hk' => by simp at hk'⟩
    | some g => exact ⟨g, (hg.lt g hk).1, fun k hk' => by simpa using hk'.symm⟩
  exact ⟨gb, hgb, ⟨V', none, G', vc, 0, gc, Nat.le_refl _, rfl, rfl, hx, hv.rd (fun k _ => ⟨Nat.zero_le _, by simp⟩), hg.imp fun _ _ e => e.ez W, hgk, RdL.nil _ _ _ _⟩, h1.ext hb, h2.ext hb⟩
end
theorem info_zs' : (Tryz.prog.info? 35).map (fun i => (i.zero, i.size, i.bytes)) = some (some (.slice none 0 0), 1, 24) := by kernel_rfl
set_option maxRecDepth 100000 in
set_option maxHeartbeats 4000000 in
theorem r8New_any (op m1 m2 nk : Int) (name : ByteArray) (anti : Bool) (A1 A2 A3 A4 A5 A6 A7 : Option Addr) (c1 c2 l3 c3 l4 c4 l5 c5 l6 c6 l7 c7 : Nat) (cols others widths : List Int) (u : Value) (w : World) (h1 : RdI w AnyB (.slice A1 cols.length c1) cols) (h2 : RdI w AnyB (.slice A2 others.length c2) others) (hu : RdI w AnyB u widths) :
    Calls Tryz.prog 44 #[.agg #[.int .i64 op, .int .i64 m1, .int .i64 m2, .int .i64 nk, .string name, .bool anti, .slice A1 cols.length c1, .slice A2 others.length c2, .slice A3 l3 c3, .slice A4 l4 c4, .slice A5 l5 c5, .slice A6 l6 c6, .slice A7 l7 c7], u, .int .i64 9] w (R8New op widths cols others w) := by
  have mixed := mixed
  obtain ⟨A, c, rfl, _⟩ := hu.shape
  obtain ⟨W0, hW0⟩ : ∃ W0, W0 = w.alloc (.cells #[.int .i64 op, .int .i64 m1, .int .i64 m2, .int .i64 nk, .string name, .bool anti, .slice A1 cols.length c1, .slice A2 others.length c2, .slice A3 l3 c3, .slice A4 l4 c4, .slice A5 l5 c5, .slice A6 l6 c6, .slice A7 l7 c7] 28) := ⟨_, rfl⟩
  have HNK := As.mk (node_keep op m1 m2 nk name anti A1 A2 A3 A4 A5 A6 A7 cols.length c1 others.length c2 l3 c3 l4 c4 l5 c5 l6 c6 l7 c7 w W0 28 hW0)
  have HE0 : As (Ext w W0) := ⟨hW0 ▸ Ext.alloc (Ext.refl w) _⟩
  have HL := As.mk (r8layer_any op W0)
  have HTK := As.mk (fun W => r8takes_any op m1 m2 nk name anti A1 A2 A3 A4 A5 A6 A7 cols.length c1 others.length c2 l3 c3 l4 c4 l5 c5 l6 c6 l7 c7 W)
  have HR1 := As.mk h1
  have HR2 := As.mk h2
  have HU := As.mk hu
  clear h1 h2 hu
  by_cases h5 : op = 5
  · subst h5
    go_enter Tryz.func44, Tryz.ntmps44
    go_wp2_with fail
    rw [← hW0]
    clear hW0
    refine HL.out.mono ?_
    rintro e w1 ⟨⟨k9, rfl, hk9⟩, rfl⟩
    obtain rfl : k9 = 9 := by simpa using hk9
    obtain ⟨n0, n1, n2, n3, n4, n5, n6, n7, n8, n9, n10, n11, n12⟩ := HNK.out W0 (Below.refl _ _)
    go_wp2_with fail
    refine (HTK.out _).mono ?_
    rintro e w1 ⟨⟨k2, rfl, hk2⟩, hE1⟩
    obtain rfl : k2 = 2 := by simpa using hk2
    have HE1 := As.mk (HE0.out.trans hE1)
    clear n0 n1 n2 n3 n4 n5 n6 n7 n8 n9 n10 n11 n12
    have hsz1 := HE1.out.size
    obtain ⟨X, hX⟩ : ∃ X, X = w1.alloc (.cells #[] 28) := ⟨_, rfl⟩
    have hEX : Ext w1 X := hX ▸ Ext.alloc (Ext.refl w1) _
    have HEX := As.mk (HE1.out.trans hEX)
    have hXs : X.heap.size = w1.heap.size + 1 := by rw [hX]; simp
    obtain ⟨n0, n1, n2, n3, n4, n5, n6, n7, n8, n9, n10, n11, n12⟩ := HNK.out X (hE1.trans hEX).below
    rw [hX] at n0 n1 n2 n3 n4 n5 n6 n7 n8 n9 n10 n11 n12
    clear hE1 hk2 hk9
    by_cases hwl : widths.length = 2
    · have hwlb : ((widths.length : Int) != 2) = false := by simp [hwl]
      have HWL := As.mk hwl
      obtain ⟨x, y, rfl⟩ : ∃ x y, widths = [x, y] := by
        match widths, hwl with
        | [x, y], _ => exact ⟨x, y, rfl⟩
      clear hwl
      obtain ⟨bw, ow, cw, hvw, hbw, hix, g0⟩ := HU.out.val (j := 0) (x := x) rfl
      obtain ⟨bw', ow', cw', hvw', _, hiy, g1⟩ := HU.out.val (j := 1) (x := y) rfl
      injection hvw with hA _ hcc
      subst hA hcc
      injection hvw' with hA _ hcc
      injection hA with hA
      injection hA with hA1 hA2 _
      subst hA1 hA2 hcc
      simp only [Nat.add_zero] at g0
      have G0 := As.mk g0
      have G1 := As.mk g1
      have HIX := As.mk hix
      have HIY := As.mk hiy
      clear g0 g1 hix hiy
      simp only [List.length_cons, List.length_nil, Nat.zero_add, Nat.reduceAdd] at *
      obtain ⟨Y, hY⟩ : ∃ Y, Y = X.alloc (.cells #[.int .i64 5, .int .i64 0, .int .i64 1, .int .i64 nk, .string name, .bool anti, .slice A1 cols.length c1, .slice A2 others.length c2, .slice none 0 0, .slice A4 l4 c4, .slice A5 l5 c5, .slice A6 l6 c6, .slice A7 l7 c7] 28) := ⟨_, rfl⟩
      have hYb : Y.heap[X.heap.size]? = some (.cells #[.int .i64 5, .int .i64 0, .int .i64 1, .int .i64 nk, .string name, .bool anti, .slice A1 cols.length c1, .slice A2 others.length c2, .slice none 0 0, .slice A4 l4 c4, .slice A5 l5 c5, .slice A6 l6 c6, .slice A7 l7 c7] 28 (0, 0)) := by rw [hY]; exact heap_alloc_new X _
      have hEY : Ext X Y := hY ▸ Ext.alloc (Ext.refl X) _
      have HST0 : As (NewSt w w1.heap.size X.heap.size x y nk name anti A1 A2 A4 A5 A6 A7 cols.length c1 others.length c2 l4 c4 l5 c5 l6 c6 l7 c7 0 (.slice (some ⟨w1.heap.size, 0, none⟩) 0 0) Y) := ⟨(HEX.out.trans hEY).below, hsz1, by omega, none, 0, [], rfl, hYb, OwnL.nil _ _ _ _ _, (OwnL.made 13 EN 28 w1 w1.heap.size #[] 0 (Nat.le_refl _) (by decide) rfl).ext (by rw [← hX]; exact hEY), fun k hk => by simp [Value.ownBlock] at hk; omega⟩
      have HXB := As.mk hXs.symm
      rw [hX] at hY
      clear hXs
      go_wp2_with fail
      rw [HXB.out]
      go_loopg [8, 10] 2 (fun g s8 s10 wr => ∃ i : Nat, i ≤ 2 ∧ 2 - i ≤ g ∧ s10 = .int .i64 i ∧ As (NewSt w w1.heap.size X.heap.size x y nk name anti A1 A2 A4 A5 A6 A7 cols.length c1 others.length c2 l4 c4 l5 c5 l6 c6 l7 c7 i s8 wr))
      case atStart => exact ⟨0, by omega, by omega, by go_num, by rw [← hY]; exact HST0⟩
      case round =>
        clear hY hYb hEY HST0 hX HXB hEX HEX n0 n1 n2 n3 n4 n5 n6 n7 n8 n9 n10 n11 n12
        obtain ⟨i, hi, hg, rfl, HST⟩ := hrel
        have hst := HST.out
        clear HST
        have h3 : i = 0 ∨ i = 1 ∨ i = 2 := by omega
        rcases h3 with rfl | rfl | rfl
        · have gg := bc hst.1 G0.out
          have hnb := Nat.le_trans hst.2.1 (Nat.le_trans hst.2.2.1 (Nat.le_of_lt (Array.getElem?_eq_some_iff.1 hst.2.2.2.choose_spec.choose_spec.choose_spec.2.1).1))
          have HOWN := As.mk hst.2.2.2.choose_spec.choose_spec.choose_spec.2.2.2.1
          have HNX := As.mk hst.2.2.2.choose_spec.choose_spec.choose_spec.2.2.2.2
          have hxl := (Array.getElem?_eq_some_iff.1 hst.2.2.2.choose_spec.choose_spec.choose_spec.2.1).1
          have HST := As.mk hst
          have HNB : As (w1.heap.size ≤ wr.heap.size) := ⟨by have := hst.2.2.1; omega⟩
          have h23 := As.mk (And.intro hst.2.1 hst.2.2.1)
          clear hst hnb
          go_wp2_with (at_builtin; first | (refine OwnL.append (w0 := wr) (W := wr) w1.heap.size rfl (.tmp 38) (.tmp 44) 55 28 _ 13 224 rfl Tryz.underlying55 info_node rfl (by decide) (by decide) _ ([inNode ⟨#[120]⟩ x, inNode ⟨#[120]⟩ y].take 0) (inNode ⟨#[120]⟩ x) (inNode ⟨#[120]⟩ x) rfl rfl (E := EN) rfl rfl (by simp [inNode, Value.oneCell']) HOWN.out (Below.refl _ _) HNB.out (by simp) rfl ?_; intro v2 w2 hown2 hb2 hg2 hat2; obtain ⟨hB2, A3k, c3k, ks, hks, hx2, hok⟩ := HST.out.one hg2; have HNE2 : As (∀ k, v2.ownBlock = some k → k ≠ X.heap.size) := ⟨fun k hk => by rcases hat2 with h | ⟨b, hb, hle⟩; (exact HNX.out k (h ▸ hk)); (rw [hb] at hk; injection hk with hk; omega)⟩; obtain ⟨k0, k1, k2, k3, k4, k5, k6, k7, k8, k9, k10, k11, k12⟩ := cells13 hx2; have HX2 := As.mk hx2; have HOK := As.mk hok; have HV2 := As.mk hown2; have HB2 := As.mk hB2; have HKS := As.mk hks; have hnb2 : w1.heap.size ≤ w2.heap.size := Nat.le_trans HNB.out hg2.size; have HLK : As (ks.length < 4294967296) := ⟨by rw [hks]; decide⟩; obtain ⟨vs, hvs⟩ : ∃ vs, vs = Value.slice A3k 0 c3k := ⟨_, rfl⟩; rw [← hvs] at k8; have HVS := As.mk hvs; have HOV : As (OwnL 1 EI 3 w2 w1.heap.size vs ks) := ⟨hvs ▸ hok⟩; clear hvs hown2 hb2 hg2 hat2 hx2 hok hB2 hks) | (refine OwnL.append (w0 := w2) (W := w2) w1.heap.size rfl (.tmp 47) (.tmp 49) 22 3 _ 1 8 rfl Tryz.underlying22 info_int' rfl (by decide) (by decide) vs ks 0 [.int .i64 0] rfl rfl (E := EI) ⟨rfl, by unfold i64; omega⟩ rfl (by simp [Value.oneCell']) HOV.out (Below.refl _ _) hnb2 HLK.out rfl ?_; intro v3 w3 hown3 hb3 hg3 hat3; rw [HVS.out] at hg3; obtain ⟨kq, hkq⟩ : ∃ kq : List Int, kq = ks ++ [0] := ⟨_, rfl⟩; rw [← hkq] at hown3; have hkql : kq.length = 1 := (by rw [hkq, List.length_append, HKS.out]; rfl); clear hkq; obtain ⟨A3q, c3q, hv3, _⟩ := hown3.shape; rw [hkql] at hv3; subst hv3; obtain ⟨hx3, hB3, hst3⟩ := NewSt.two HB2.out h23.out.1 h23.out.2 HX2.out HOK.out HV2.out HNE2.out hg3 hkql hown3; obtain ⟨j0, j1, j2, j3, j4, j5, j6, j7, j8, j9, j10, j11, j12⟩ := cells13 hx3; have jf := Lib.frozen_of_heap hx3 8; have HST3 : As (NewSt w w1.heap.size X.heap.size x y nk name anti A1 A2 A4 A5 A6 A7 cols.length c1 others.length c2 l4 c4 l5 c5 l6 c6 l7 c7 1 v2 (w3.setCell ⟨X.heap.size, 8, none⟩ (.slice A3q 1 c3q))) := ⟨hst3⟩; clear hown3 hb3 hg3 hat3 hx3 hB3 hst3 hkql))
          go_roundg 1
          case measure => omega
          case rel => exact ⟨1, by omega, by omega, by go_num, HST3⟩
        · have gg := bc hst.1 G1.out
          have hnb := Nat.le_trans hst.2.1 (Nat.le_trans hst.2.2.1 (Nat.le_of_lt (Array.getElem?_eq_some_iff.1 hst.2.2.2.choose_spec.choose_spec.choose_spec.2.1).1))
          have HOWN := As.mk hst.2.2.2.choose_spec.choose_spec.choose_spec.2.2.2.1
          have HNX := As.mk hst.2.2.2.choose_spec.choose_spec.choose_spec.2.2.2.2
          have hxl := (Array.getElem?_eq_some_iff.1 hst.2.2.2.choose_spec.choose_spec.choose_spec.2.1).1
          have HST := As.mk hst
          have HNB : As (w1.heap.size ≤ wr.heap.size) := ⟨by have := hst.2.2.1; omega⟩
          have h23 := As.mk (And.intro hst.2.1 hst.2.2.1)
          clear hst hnb
          go_wp2_with (at_builtin; first | (refine OwnL.append (w0 := wr) (W := wr) w1.heap.size rfl (.tmp 38) (.tmp 44) 55 28 _ 13 224 rfl Tryz.underlying55 info_node rfl (by decide) (by decide) _ ([inNode ⟨#[120]⟩ x, inNode ⟨#[120]⟩ y].take 1) (inNode ⟨#[120]⟩ y) (inNode ⟨#[120]⟩ y) rfl rfl (E := EN) rfl rfl (by simp [inNode, Value.oneCell']) HOWN.out (Below.refl _ _) HNB.out (by simp) rfl ?_; intro v2 w2 hown2 hb2 hg2 hat2; obtain ⟨hB2, A3k, c3k, ks, hks, hx2, hok⟩ := HST.out.one hg2; have HNE2 : As (∀ k, v2.ownBlock = some k → k ≠ X.heap.size) := ⟨fun k hk => by rcases hat2 with h | ⟨b, hb, hle⟩; (exact HNX.out k (h ▸ hk)); (rw [hb] at hk; injection hk with hk; omega)⟩; obtain ⟨k0, k1, k2, k3, k4, k5, k6, k7, k8, k9, k10, k11, k12⟩ := cells13 hx2; have HX2 := As.mk hx2; have HOK := As.mk hok; have HV2 := As.mk hown2; have HB2 := As.mk hB2; have HKS := As.mk hks; have hnb2 : w1.heap.size ≤ w2.heap.size := Nat.le_trans HNB.out hg2.size; have HLK : As (ks.length < 4294967296) := ⟨by rw [hks]; decide⟩; clear hown2 hb2 hg2 hat2 hx2 hok hB2 hks) | (refine OwnL.append (w0 := w2) (W := w2) w1.heap.size rfl (.tmp 47) (.tmp 49) 22 3 _ 1 8 rfl Tryz.underlying22 info_int' rfl (by decide) (by decide) (.slice A3k 1 c3k) ks 1 [.int .i64 1] rfl rfl (E := EI) ⟨rfl, by unfold i64; omega⟩ rfl (by simp [Value.oneCell']) HOK.out (Below.refl _ _) hnb2 HLK.out rfl ?_; intro v3 w3 hown3 hb3 hg3 hat3; obtain ⟨kq, hkq⟩ : ∃ kq : List Int, kq = ks ++ [1] := ⟨_, rfl⟩; rw [← hkq] at hown3; have hkql : kq.length = 2 := (by rw [hkq, List.length_append, HKS.out]; rfl); clear hkq; obtain ⟨A3q, c3q, hv3, _⟩ := hown3.shape; rw [hkql] at hv3; subst hv3; obtain ⟨hx3, hB3, hst3⟩ := NewSt.two HB2.out h23.out.1 h23.out.2 HX2.out HOK.out HV2.out HNE2.out hg3 hkql hown3; obtain ⟨j0, j1, j2, j3, j4, j5, j6, j7, j8, j9, j10, j11, j12⟩ := cells13 hx3; have jf := Lib.frozen_of_heap hx3 8; have HST3 := As.mk hst3; clear hown3 hb3 hg3 hat3 hx3 hB3 hst3 hkql))
          go_roundg 0
          case measure => omega
          case rel => exact ⟨2, by omega, by omega, by go_num, HST3⟩
        · obtain ⟨hB, hn1, hn2, A3k, c3k, ks, hks, hxb, hA3, hu8, hne⟩ := hst
          have HB := As.mk hB
          have HOWN := As.mk hu8
          have hu8l := hu8.shape
          have HNB : As (w1.heap.size ≤ wr.heap.size) := ⟨Nat.le_trans hn2 (Nat.le_of_lt (Array.getElem?_eq_some_iff.1 hxb).1)⟩
          obtain ⟨k0, k1, k2, k3, k4, k5, k6, k7, k8, k9, k10, k11, k12⟩ := cells13 hxb
          clear hB hn1 hn2 hks hxb hA3 hu8 hne hu8l
          go_wp2_with (at_builtin; (refine OwnL.append (w0 := wr) (W := wr) w1.heap.size rfl (.tmp 52) (.tmp 54) 55 28 _ 13 224 rfl Tryz.underlying55 info_node rfl (by decide) (by decide) _ ([inNode ⟨#[120]⟩ x, inNode ⟨#[120]⟩ y].take 2) ([.int .i64 5, .int .i64 0, .int .i64 1, .int .i64 nk, .string name, .bool anti, .slice A1 cols.length c1, .slice A2 others.length c2, .slice A3k 2 c3k, .slice A4 l4 c4, .slice A5 l5 c5, .slice A6 l6 c6, .slice A7 l7 c7]) ([.int .i64 5, .int .i64 0, .int .i64 1, .int .i64 nk, .string name, .bool anti, .slice A1 cols.length c1, .slice A2 others.length c2, .slice A3k 2 c3k, .slice A4 l4 c4, .slice A5 l5 c5, .slice A6 l6 c6, .slice A7 l7 c7]) rfl rfl (E := EN) rfl rfl (by simp [Value.oneCell']) HOWN.out (Below.refl _ _) HNB.out (by simp) rfl ?_; intro v2 w2 hown2 hb2 hg2 hat2; have hRN : RdN w2 v2 (NPlan x y nk name anti A1 A2 A3k A4 A5 A6 A7 cols.length c1 others.length c2 2 c3k l4 c4 l5 c5 l6 c6 l7 c7) := hown2.rd (fun _ _ => trivial); obtain ⟨bp, op, cc, hv2, _, _⟩ := hRN.node (j := 0) rfl; have hv2 : v2 = .slice (some ⟨bp, op, none⟩) 3 cc := hv2; subst hv2; have HRN := As.mk hRN; have HB2 := As.mk (HB.out.grown hg2 HB.out.size fun k hk => Nat.le_trans HE1.out.size (HOWN.out.lt k hk).1); clear hown2 hb2 hg2 hat2 hRN k0 k1 k2 k3 k4 k5 k6 k7 k8 k9 k10 k11 k12))
          have HWD := As.mk (r6Width_any bp op cc x y nk name anti A1 A2 A3k A4 A5 A6 A7 c1 c2 2 c3k l4 c4 l5 c5 l6 c6 l7 c7 cols others w2 (HR1.out.ext HB2.out) (HR2.out.ext HB2.out) HIX.out HIY.out HRN.out)
          by_cases hj : joinOk cols others x y = true
          · have HNE := As.mk (fun W (hB : Below w2.heap.size w2 W) => r6Neat_ok bp op cc x y nk name anti A1 A2 A3k A4 A5 A6 A7 c1 c2 2 c3k l4 c4 l5 c5 l6 c6 l7 c7 cols others W ((HR1.out.ext HB2.out).ext hB) ((HR2.out.ext HB2.out).ext hB) HIX.out HIY.out hj (HRN.out.ext hB))
            refine HWD.out.mono ?_
            rintro e w3 ⟨hB3, h⟩
            rcases h with ⟨_, rfl, hab⟩ | ⟨h, _⟩
            · have HB3 := As.mk hB3
              have HJ := As.mk hj
              have habf : decide (x + y < 0) = false := by simp; omega
              have habn : ¬ (x + y < 0) := by omega
              clear hj hB3 HWD
              go_wp2_with fail
              refine (HNE.out w3 HB3.out).mono ?_
              rintro e w4 ⟨v4, rfl, hB4, outs, P, c4', at0, at1, B1, B2, d1, d2, hv4, hl4, hr1, hr2⟩
              obtain ⟨bq, oq, cq, hq, hbq, hnd⟩ := RdN.node (j := outs.length) (cs := JNd at0 at1 B1 B2 d1 d2 cols others) hl4 (by simp)
              rw [hv4] at hq
              injection hq with hA hB hC
              subst hA hC
              subst hv4
              have HB4 := As.mk (HB2.out.trans ((HB3.out.trans (hB4.mono HB3.out.size)).mono HB2.out.size))
              have hlm := RdL.len hl4
              have hw64 : wrap64 (outs.length : Int) = outs.length := wrap_small (by omega) (by simp at hlm; omega)
              have HRI1 := As.mk hr1
              have HRI2 := As.mk hr2
              clear hB4 hl4 hr1 hr2 hB hbq HNE
              have n0 : w4.cell? ⟨bq, oq + outs.length * 13, none⟩ = some (.int .i64 5) := hnd 0 _ rfl
              have n1 := hnd 1 _ rfl
              have n2 := hnd 2 _ rfl
              have n3 := hnd 3 _ rfl
              have n4 := hnd 4 _ rfl
              have n5 := hnd 5 _ rfl
              have n6 := hnd 6 _ rfl
              have n7 := hnd 7 _ rfl
              have n8 := hnd 8 _ rfl
              have n9 := hnd 9 _ rfl
              have n10 := hnd 10 _ rfl
              have n11 := hnd 11 _ rfl
              have n12 := hnd 12 _ rfl
              clear hnd
              go_wp2_with fail
              have HST0 : As (NW2 w4 at0 at1 B1 B2 d1 d2 cols.length others.length [] 0 (.slice none 0 0) (.slice none 0 0) (w4.alloc (.cells #[.int .i64 5, .int .i64 at0, .int .i64 at1, .int .i64 0, .string ⟨#[]⟩, .bool false, .slice B1 cols.length d1, .slice B2 others.length d2, .slice none 0 0, .slice none 0 0, .slice none 0 0, .slice none 0 0, .slice none 0 0, .slice none 0 0, .slice none 0 0, .slice none 0 0, .int .i64 0] 100))) := ⟨(Ext.alloc (Ext.refl _) _).below, heap_alloc_new _ _, OwnL.nil _ _ _ _ _, OwnL.nil _ _ _ _ _⟩
              clear n0 n1 n2 n3 n4 n5 n6 n7 n8 n9 n10 n11 n12 hw64 hlm habf habn hab HB HOWN HNB HB2 HB3 HRN
              go_loopg [14] 2 (fun g s14 wr => ∃ (i : Nat) (V G : Value), i ≤ 2 ∧ 2 - i ≤ g ∧ s14 = .int .i64 i ∧ As (NW2 w4 at0 at1 B1 B2 d1 d2 cols.length others.length ([x, y].take i) i V G wr))
              case atStart => exact ⟨0, _, _, by omega, by omega, by go_num, HST0⟩
              case round =>
                clear HST0
                obtain ⟨i, V, G, hi, hg, rfl, HST⟩ := hrel
                have h3 : i = 0 ∨ i = 1 ∨ i = 2 := by omega
                rcases h3 with rfl | rfl | rfl
                · have gx := bc (HB4.out.trans (HST.out.1.mono HB4.out.size)) G0.out
                  obtain ⟨c13, c14⟩ := HST.out.cells
                  have HD := As.mk (HST.out.ext (Ext.drew (Ext.refl wr)).below)
                  have c13d := fun o => Ext.cell (Ext.alloc (Ext.refl wr) o) c13
                  have gxd := fun o => Ext.cell (Ext.alloc (Ext.refl wr) o) gx
                  have HNZ : As (w4.heap.size ≤ wr.drew.heap.size) := ⟨HD.out.1.size⟩
                  have HLO : As (([x, y].take 0).length < 4294967296) := ⟨by simp⟩
                  have HLR : As ((List.replicate 0 ([] : List GE)).length < 4294967296) := ⟨by simp⟩
                  go_wp2_with fail
                  go_region_law (refine OwnL.append_step_at (W := wr.drew) w4.heap.size rfl (.tmp 82) (.tmp 87) 22 3 _ 1 8 rfl Tryz.underlying22 info_int' rfl (by decide) (by decide) V ([x, y].take 0) x [.int .i64 x] (by go_simp) (by go_simp) (E := EI) ⟨rfl, HIX.out⟩ rfl (by simp [Value.oneCell']) HD.out.2.2.1 (Below.refl w4.heap.size wr.drew) HNZ.out HLO.out rfl ?_; intro v3 w3 hown3 hb3 hg3 hat3; have hown3 : OwnL 1 EI 3 w3 w4.heap.size v3 [x] := hown3; obtain ⟨A3q, c3q, hv3, _⟩ := hown3.shape; subst hv3; obtain ⟨hc3, ⟨cs3, hf3⟩, hst3⟩ := HD.out.push1 hg3 (ws' := [x]) hown3; have y13 := hc3 13 _ HD.out.cells.1; have f3 := Lib.frozen_of_heap hf3 13; have HS3 := As.mk hst3; clear hown3 hb3 hg3 hat3 hc3 hf3 hst3)
                  all_goals
                    clear c13 c14 c13d gxd gx y13 f3
                    generalize w3.setCell ⟨w4.heap.size, 13, none⟩ (.slice A3q 1 c3q) = w5 at *
                    obtain ⟨e13, e14⟩ := HS3.out.cells
                    have HN5 : As (w4.heap.size ≤ w5.heap.size) := ⟨HS3.out.1.size⟩
                    go_wp2_with (at_builtin; (refine OwnL.append (w0 := w5) (W := w5) w4.heap.size rfl (.tmp 95) (.tmp 96) 36 35 _ 1 24 rfl Tryz.underlying36 info_zs' rfl (by decide) (by decide) G (List.replicate 0 []) [] [.slice none 0 0] rfl rfl (E := EZ0) ⟨rfl, rfl⟩ rfl (by simp [Value.oneCell']) HS3.out.2.2.2 (Below.refl _ _) HN5.out HLR.out rfl ?_; intro v6 w6 hown6 hb6 hg6 hat6; have hown6' : OwnL 1 EZ0 35 w6 w4.heap.size v6 [[]] := hown6; obtain ⟨A6, c6, hv6, _⟩ := hown6'.shape; subst hv6; clear hown6'; obtain ⟨hc6, ⟨cs6, hf6⟩, hst6⟩ := HS3.out.push2 hg6 hown6; have z14 := hc6 14 _ e14; have f6 := Lib.frozen_of_heap hf6 14; have HS6 := As.mk hst6; clear hown6 hb6 hg6 hat6 hc6 hf6 hst6))
                    go_roundg (1)
                    case measure => omega
                    case rel => exact ⟨1, _, _, by omega, by omega, by go_num, HS6⟩
                · have gx := bc (HB4.out.trans (HST.out.1.mono HB4.out.size)) G1.out
                  obtain ⟨c13, c14⟩ := HST.out.cells
                  have HD := As.mk (HST.out.ext (Ext.drew (Ext.refl wr)).below)
                  have c13d := fun o => Ext.cell (Ext.alloc (Ext.refl wr) o) c13
                  have gxd := fun o => Ext.cell (Ext.alloc (Ext.refl wr) o) gx
                  have HNZ : As (w4.heap.size ≤ wr.drew.heap.size) := ⟨HD.out.1.size⟩
                  have HLO : As (([x, y].take 1).length < 4294967296) := ⟨by simp⟩
                  have HLR : As ((List.replicate 1 ([] : List GE)).length < 4294967296) := ⟨by simp⟩
                  go_wp2_with fail
                  go_region_law (refine OwnL.append_step_at (W := wr.drew) w4.heap.size rfl (.tmp 82) (.tmp 87) 22 3 _ 1 8 rfl Tryz.underlying22 info_int' rfl (by decide) (by decide) V ([x, y].take 1) y [.int .i64 y] (by go_simp) (by go_simp) (E := EI) ⟨rfl, HIY.out⟩ rfl (by simp [Value.oneCell']) HD.out.2.2.1 (Below.refl w4.heap.size wr.drew) HNZ.out HLO.out rfl ?_; intro v3 w3 hown3 hb3 hg3 hat3; have hown3 : OwnL 1 EI 3 w3 w4.heap.size v3 [x, y] := hown3; obtain ⟨A3q, c3q, hv3, _⟩ := hown3.shape; subst hv3; obtain ⟨hc3, ⟨cs3, hf3⟩, hst3⟩ := HD.out.push1 hg3 (ws' := [x, y]) hown3; have y13 := hc3 13 _ HD.out.cells.1; have f3 := Lib.frozen_of_heap hf3 13; have HS3 := As.mk hst3; clear hown3 hb3 hg3 hat3 hc3 hf3 hst3)
                  all_goals
                    clear c13 c14 c13d gxd gx y13 f3
                    generalize w3.setCell ⟨w4.heap.size, 13, none⟩ (.slice A3q 2 c3q) = w5 at *
                    obtain ⟨e13, e14⟩ := HS3.out.cells
                    have HN5 : As (w4.heap.size ≤ w5.heap.size) := ⟨HS3.out.1.size⟩
                    go_wp2_with (at_builtin; (refine OwnL.append (w0 := w5) (W := w5) w4.heap.size rfl (.tmp 95) (.tmp 96) 36 35 _ 1 24 rfl Tryz.underlying36 info_zs' rfl (by decide) (by decide) G (List.replicate 1 []) [] [.slice none 0 0] rfl rfl (E := EZ0) ⟨rfl, rfl⟩ rfl (by simp [Value.oneCell']) HS3.out.2.2.2 (Below.refl _ _) HN5.out HLR.out rfl ?_; intro v6 w6 hown6 hb6 hg6 hat6; have hown6' : OwnL 1 EZ0 35 w6 w4.heap.size v6 [[], []] := hown6; obtain ⟨A6, c6, hv6, _⟩ := hown6'.shape; subst hv6; clear hown6'; obtain ⟨hc6, ⟨cs6, hf6⟩, hst6⟩ := HS3.out.push2 hg6 hown6; have z14 := hc6 14 _ e14; have f6 := Lib.frozen_of_heap hf6 14; have HS6 := As.mk hst6; clear hown6 hb6 hg6 hat6 hc6 hf6 hst6))
                    go_roundg (0)
                    case measure => omega
                    case rel => exact ⟨2, _, _, by omega, by omega, by go_num, HS6⟩
                · go_wp2_with fail
                  go_ret2
                  obtain ⟨gb, hgb, hop, h1, h2⟩ := HST.out.op HRI1.out HRI2.out
                  exact ⟨HB4.out.trans (HST.out.1.mono HB4.out.size), .inr ⟨w4.heap.size, w4.heap.size, gb, x, y, at0, at1, B1, B2, d1, d2, rfl, rfl, HJ.out, rfl, HB4.out.size, Nat.le_refl _, hgb, hop, h1, h2⟩⟩
            · exact absurd hj (by rw [h]; decide)
          · have HNO : As (NotJ 5 [x, y] cols others) := ⟨by rintro ⟨_, a, b, e, h⟩; injection e with e1 e2; injection e2 with e2 _; subst e1 e2; exact hj h⟩
            refine HWD.out.mono ?_
            rintro e w3 ⟨hB3, h⟩
            rcases h with ⟨h, _, _⟩ | ⟨_, rfl⟩
            · exact absurd h hj
            · have HB3 := As.mk (HB2.out.trans (hB3.mono HB2.out.size))
              clear hB3 hj HWD
              go_wp2_with fail
              go_ret2
              exact ⟨HB3.out, .inl ⟨HNO.out, rfl⟩⟩
    · have hwlb : ((widths.length : Int) != 2) = true := by simp; omega
      have HNO : As (NotJ 5 widths cols others) := ⟨by rintro ⟨_, x, y, rfl, _⟩; exact hwl rfl⟩
      clear hwl
      go_wp2_with fail
      go_ret2
      exact ⟨HE1.out.below, .inl ⟨HNO.out, rfl⟩⟩
  · have HNO : As (NotJ op widths cols others) := ⟨fun h => h5 h.1⟩
    go_enter Tryz.func44, Tryz.ntmps44
    go_wp2_with fail
    rw [← hW0]
    clear hW0
    refine HL.out.mono ?_
    rintro e w1 ⟨⟨k9, rfl, hk9⟩, rfl⟩
    have hkb : (k9 != 9) = true := by first | (simpa [h5] using hk9) | (simp_all)
    clear hk9 h5
    go_wp2_with fail
    go_ret2
    exact ⟨HE0.out.below, .inl ⟨HNO.out, rfl⟩⟩
end Go.Proofs.YtflckpfpgpfjlaaGreatDoor
