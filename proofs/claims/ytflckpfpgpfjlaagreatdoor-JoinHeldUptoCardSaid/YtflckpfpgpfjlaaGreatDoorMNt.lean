/- The reference's bare operators, and its neat plan of one join. The reference's Width, of the plan of a join; its count. -/
import Derived.Test.YtflckpfpgpfjlaaGreatDoorMNr
import Derived.Test.YtflckpfpgpfjlaaGreatDoorMNb
import Derived.Test.YtflckpfpgpfjlaaGreatDoorMJn
set_option linter.unusedVariables false
set_option linter.unusedSimpArgs false
section
namespace Go.Proofs.YtflckpfpgpfjlaaGreatDoor
open Go.RowKit Go.Sort
theorem info_int' : (Tryz.prog.info? 3).map (fun i => (i.zero, i.size, i.bytes)) = some (some (.int .i64 0), 1, 8) := by kernel_rfl
theorem r6ints_any (v : Value) (cols : List Int) (w : World) (hr : RdI w AnyB v cols) : Calls Tryz.prog 254 #[v] w fun e w' => ∃ A c, e = .returned (.slice A cols.length c) ∧ RdI w' (Fresh w.heap.size [3]) (.slice A cols.length c) cols ∧ Below w.heap.size w w' := by
  obtain ⟨A, c, rfl, hc⟩ := hr.shape
  have hl := hr.len
  have HR1 : As (RdI (w.alloc (.cells #[] 3)) AnyB (.slice A cols.length c) cols) := ⟨hr.ext (Ext.alloc (Ext.refl _) _).below⟩
  have HO : As (OwnL 1 EI 3 (w.alloc (.cells #[] 3)) w.heap.size (.slice (some ⟨w.heap.size, 0, none⟩) 0 0) []) := ⟨OwnL.made 1 EI 3 w w.heap.size #[] 0 (Nat.le_refl _) (by decide) rfl⟩
  have HB : As (Below w.heap.size w (w.alloc (.cells #[] 3))) := ⟨(Below.refl _ _).alloc (Nat.le_refl _) _⟩
  clear hr
  go_enter Tryz.func254, Tryz.ntmps254
  go_wp2_with (at_builtin; refine OwnL.appends w.heap.size rfl _ _ 22 3 _ 1 8 rfl Tryz.underlying22 info_int' rfl (by decide) (by decide) _ [] cols _ _ _ rfl rfl HR1.out HO.out HB.out (by simp) (by simpa using hl) ?_; intro v1 w1 hown hb hg hat)
  have HRD := As.mk (OwnL.rd (xs := cols) (by simpa using hown) (ok := Fresh w.heap.size [3]) (fun k hk => ⟨hk, by simp⟩))
  obtain ⟨A9, c9, rfl, _⟩ := HRD.out.shape
  go_ret
  exact ⟨_, _, rfl, HRD.out, hb⟩
theorem heap3_mid (w : World) (a b c : Obj) : (((w.alloc a).alloc b).alloc c).heap[w.heap.size + 1]? = some b := by
  have h1 : ((w.alloc a).alloc b).heap[w.heap.size + 1]? = some b := by
    have := heap_alloc_new (w.alloc a) b
    simpa using this
  rw [(Ext.alloc (Ext.refl ((w.alloc a).alloc b)) c).below.block _ (by simp)]
  exact h1
set_option maxRecDepth 100000 in
set_option maxHeartbeats 2000000 in
theorem r6bare_in (a : Int) (w : World) : Calls Tryz.prog 229 #[.agg #[.int .i64 1, .int .i64 0, .int .i64 0, .int .i64 a, .string ⟨#[120]⟩, .bool false, .slice none 0 0, .slice none 0 0, .slice none 0 0, .slice none 0 0, .slice none 0 0, .slice none 0 0, .slice none 0 0]] w fun e w' => e = .returned (.agg #[.int .i64 1, .int .i64 0, .int .i64 0, .int .i64 a, .string ⟨#[120]⟩, .bool false, .slice none 0 0, .slice none 0 0, .slice none 0 0, .slice none 0 0, .slice none 0 0, .slice none 0 0, .slice none 0 0]) ∧ Below w.heap.size w w' := by
  go_enter Tryz.func229, Tryz.ntmps229
  go_wp2_with (first | (go_at_call 188; refine (r6One_any _ _).mono ?_; rintro e w' ⟨rfl, rfl⟩) | (go_at_call 189; refine (r6Two_any _ _).mono ?_; rintro e w' ⟨rfl, rfl⟩))
  refine bodyPost_ret (results_cell_row rfl _ _ (w.heap.size + 1) 28 _ (0, 0) _ rfl (heap3_mid w _ _ _) Tryz.underlying28 rfl (by kernel_rfl)) rfl ?_
  exact ⟨rfl, (by exact (by with_reducible (repeat first | exact Ext.refl _ | assumption | apply Ext.alloc | apply Ext.drewN | apply Ext.drew | apply Ext.grow | refine Ext.trans ?_ (by assumption))) : Ext w _).below⟩
theorem below_set' {n k i : Nat} {w w' : World} {v : Value} (h : Below n w w') (hk : n ≤ k) : Below n w (w'.setCell ⟨k, i, none⟩ v) := ⟨h.os, h.tape, h.output, by simpa using h.size, fun j hj => by rw [Below.heap_setCell _ _ _ _ (by simp; omega)]; exact h.block j hj⟩
theorem alloc_in' {v W : World} {o : Obj} (hE : Ext (v.alloc o) W) {k : Nat} (hk : k = v.heap.size) : W.heap[k]? = some o := by
  subst hk
  rw [hE.below.block _ (by simp)]
  exact heap_alloc_new v o
theorem cells13 {w : World} {k : Nat} {T : TypeId} {fr : Nat × Nat} {v0 v1 v2 v3 v4 v5 v6 v7 v8 v9 v10 v11 v12 : Value} (h : w.heap[k]? = some (.cells #[v0, v1, v2, v3, v4, v5, v6, v7, v8, v9, v10, v11, v12] T fr)) : w.cell? ⟨k, 0, none⟩ = some v0 ∧ w.cell? ⟨k, 1, none⟩ = some v1 ∧ w.cell? ⟨k, 2, none⟩ = some v2 ∧ w.cell? ⟨k, 3, none⟩ = some v3 ∧ w.cell? ⟨k, 4, none⟩ = some v4 ∧ w.cell? ⟨k, 5, none⟩ = some v5 ∧ w.cell? ⟨k, 6, none⟩ = some v6 ∧ w.cell? ⟨k, 7, none⟩ = some v7 ∧ w.cell? ⟨k, 8, none⟩ = some v8 ∧ w.cell? ⟨k, 9, none⟩ = some v9 ∧ w.cell? ⟨k, 10, none⟩ = some v10 ∧ w.cell? ⟨k, 11, none⟩ = some v11 ∧ w.cell? ⟨k, 12, none⟩ = some v12 := by
  refine ⟨?_, ?_, ?_, ?_, ?_, ?_, ?_, ?_, ?_, ?_, ?_, ?_, ?_⟩ <;> rw [Lib.cell_of_heap h] <;> rfl
set_option maxHeartbeats 4000000 in
theorem set13_heap {w : World} {k : Nat} {T : TypeId} {y0 y1 y2 y3 y4 y5 y6 y7 y8 y9 y10 y11 y12 : Value} (h : w.heap[k]? = some (.cells #[y0, y1, y2, y3, y4, y5, y6, y7, y8, y9, y10, y11, y12] T (0, 0))) (v0 v1 v2 v3 v4 v5 v6 v7 v8 v9 v10 v11 v12 : Value) :
    (((((((((((((w.setCell ⟨k, 0, none⟩ v0).setCell ⟨k, 1, none⟩ v1).setCell ⟨k, 2, none⟩ v2).setCell ⟨k, 3, none⟩ v3).setCell ⟨k, 4, none⟩ v4).setCell ⟨k, 5, none⟩ v5).setCell ⟨k, 6, none⟩ v6).setCell ⟨k, 7, none⟩ v7).setCell ⟨k, 8, none⟩ v8).setCell ⟨k, 9, none⟩ v9).setCell ⟨k, 10, none⟩ v10).setCell ⟨k, 11, none⟩ v11).setCell ⟨k, 12, none⟩ v12).heap[k]? = some (.cells #[v0, v1, v2, v3, v4, v5, v6, v7, v8, v9, v10, v11, v12] T (0, 0)) := by
  have h0 : (w.setCell ⟨k, 0, none⟩ v0).heap[k]? = some (.cells #[v0, y1, y2, y3, y4, y5, y6, y7, y8, y9, y10, y11, y12] T (0, 0)) := heap_setCell_same _ k 0 _ T v0 h
  have h1 : ((w.setCell ⟨k, 0, none⟩ v0).setCell ⟨k, 1, none⟩ v1).heap[k]? = some (.cells #[v0, v1, y2, y3, y4, y5, y6, y7, y8, y9, y10, y11, y12] T (0, 0)) := heap_setCell_same _ k 1 _ T v1 h0
  have h2 : (((w.setCell ⟨k, 0, none⟩ v0).setCell ⟨k, 1, none⟩ v1).setCell ⟨k, 2, none⟩ v2).heap[k]? = some (.cells #[v0, v1, v2, y3, y4, y5, y6, y7, y8, y9, y10, y11, y12] T (0, 0)) := heap_setCell_same _ k 2 _ T v2 h1
  have h3 : ((((w.setCell ⟨k, 0, none⟩ v0).setCell ⟨k, 1, none⟩ v1).setCell ⟨k, 2, none⟩ v2).setCell ⟨k, 3, none⟩ v3).heap[k]? = some (.cells #[v0, v1, v2, v3, y4, y5, y6, y7, y8, y9, y10, y11, y12] T (0, 0)) := heap_setCell_same _ k 3 _ T v3 h2
  have h4 : (((((w.setCell ⟨k, 0, none⟩ v0).setCell ⟨k, 1, none⟩ v1).setCell ⟨k, 2, none⟩ v2).setCell ⟨k, 3, none⟩ v3).setCell ⟨k, 4, none⟩ v4).heap[k]? = some (.cells #[v0, v1, v2, v3, v4, y5, y6, y7, y8, y9, y10, y11, y12] T (0, 0)) := heap_setCell_same _ k 4 _ T v4 h3
  have h5 : ((((((w.setCell ⟨k, 0, none⟩ v0).setCell ⟨k, 1, none⟩ v1).setCell ⟨k, 2, none⟩ v2).setCell ⟨k, 3, none⟩ v3).setCell ⟨k, 4, none⟩ v4).setCell ⟨k, 5, none⟩ v5).heap[k]? = some (.cells #[v0, v1, v2, v3, v4, v5, y6, y7, y8, y9, y10, y11, y12] T (0, 0)) := heap_setCell_same _ k 5 _ T v5 h4
  have h6 : (((((((w.setCell ⟨k, 0, none⟩ v0).setCell ⟨k, 1, none⟩ v1).setCell ⟨k, 2, none⟩ v2).setCell ⟨k, 3, none⟩ v3).setCell ⟨k, 4, none⟩ v4).setCell ⟨k, 5, none⟩ v5).setCell ⟨k, 6, none⟩ v6).heap[k]? = some (.cells #[v0, v1, v2, v3, v4, v5, v6, y7, y8, y9, y10, y11, y12] T (0, 0)) := heap_setCell_same _ k 6 _ T v6 h5
  have h7 : ((((((((w.setCell ⟨k, 0, none⟩ v0).setCell ⟨k, 1, none⟩ v1).setCell ⟨k, 2, none⟩ v2).setCell ⟨k, 3, none⟩ v3).setCell ⟨k, 4, none⟩ v4).setCell ⟨k, 5, none⟩ v5).setCell ⟨k, 6, none⟩ v6).setCell ⟨k, 7, none⟩ v7).heap[k]? = some (.cells #[v0, v1, v2, v3, v4, v5, v6, v7, y8, y9, y10, y11, y12] T (0, 0)) := heap_setCell_same _ k 7 _ T v7 h6
  have h8 : (((((((((w.setCell ⟨k, 0, none⟩ v0).setCell ⟨k, 1, none⟩ v1).setCell ⟨k, 2, none⟩ v2).setCell ⟨k, 3, none⟩ v3).setCell ⟨k, 4, none⟩ v4).setCell ⟨k, 5, none⟩ v5).setCell ⟨k, 6, none⟩ v6).setCell ⟨k, 7, none⟩ v7).setCell ⟨k, 8, none⟩ v8).heap[k]? = some (.cells #[v0, v1, v2, v3, v4, v5, v6, v7, v8, y9, y10, y11, y12] T (0, 0)) := heap_setCell_same _ k 8 _ T v8 h7
  have h9 : ((((((((((w.setCell ⟨k, 0, none⟩ v0).setCell ⟨k, 1, none⟩ v1).setCell ⟨k, 2, none⟩ v2).setCell ⟨k, 3, none⟩ v3).setCell ⟨k, 4, none⟩ v4).setCell ⟨k, 5, none⟩ v5).setCell ⟨k, 6, none⟩ v6).setCell ⟨k, 7, none⟩ v7).setCell ⟨k, 8, none⟩ v8).setCell ⟨k, 9, none⟩ v9).heap[k]? = some (.cells #[v0, v1, v2, v3, v4, v5, v6, v7, v8, v9, y10, y11, y12] T (0, 0)) := heap_setCell_same _ k 9 _ T v9 h8
  have h10 : (((((((((((w.setCell ⟨k, 0, none⟩ v0).setCell ⟨k, 1, none⟩ v1).setCell ⟨k, 2, none⟩ v2).setCell ⟨k, 3, none⟩ v3).setCell ⟨k, 4, none⟩ v4).setCell ⟨k, 5, none⟩ v5).setCell ⟨k, 6, none⟩ v6).setCell ⟨k, 7, none⟩ v7).setCell ⟨k, 8, none⟩ v8).setCell ⟨k, 9, none⟩ v9).setCell ⟨k, 10, none⟩ v10).heap[k]? = some (.cells #[v0, v1, v2, v3, v4, v5, v6, v7, v8, v9, v10, y11, y12] T (0, 0)) := heap_setCell_same _ k 10 _ T v10 h9
  have h11 : ((((((((((((w.setCell ⟨k, 0, none⟩ v0).setCell ⟨k, 1, none⟩ v1).setCell ⟨k, 2, none⟩ v2).setCell ⟨k, 3, none⟩ v3).setCell ⟨k, 4, none⟩ v4).setCell ⟨k, 5, none⟩ v5).setCell ⟨k, 6, none⟩ v6).setCell ⟨k, 7, none⟩ v7).setCell ⟨k, 8, none⟩ v8).setCell ⟨k, 9, none⟩ v9).setCell ⟨k, 10, none⟩ v10).setCell ⟨k, 11, none⟩ v11).heap[k]? = some (.cells #[v0, v1, v2, v3, v4, v5, v6, v7, v8, v9, v10, v11, y12] T (0, 0)) := heap_setCell_same _ k 11 _ T v11 h10
  have h12 : (((((((((((((w.setCell ⟨k, 0, none⟩ v0).setCell ⟨k, 1, none⟩ v1).setCell ⟨k, 2, none⟩ v2).setCell ⟨k, 3, none⟩ v3).setCell ⟨k, 4, none⟩ v4).setCell ⟨k, 5, none⟩ v5).setCell ⟨k, 6, none⟩ v6).setCell ⟨k, 7, none⟩ v7).setCell ⟨k, 8, none⟩ v8).setCell ⟨k, 9, none⟩ v9).setCell ⟨k, 10, none⟩ v10).setCell ⟨k, 11, none⟩ v11).setCell ⟨k, 12, none⟩ v12).heap[k]? = some (.cells #[v0, v1, v2, v3, v4, v5, v6, v7, v8, v9, v10, v11, v12] T (0, 0)) := heap_setCell_same _ k 12 _ T v12 h11
  exact h12
theorem set13_below {w W : World} {n k : Nat} (h : Below n w W) (hk : n ≤ k) (v0 v1 v2 v3 v4 v5 v6 v7 v8 v9 v10 v11 v12 : Value) : Below n w (((((((((((((W.setCell ⟨k, 0, none⟩ v0).setCell ⟨k, 1, none⟩ v1).setCell ⟨k, 2, none⟩ v2).setCell ⟨k, 3, none⟩ v3).setCell ⟨k, 4, none⟩ v4).setCell ⟨k, 5, none⟩ v5).setCell ⟨k, 6, none⟩ v6).setCell ⟨k, 7, none⟩ v7).setCell ⟨k, 8, none⟩ v8).setCell ⟨k, 9, none⟩ v9).setCell ⟨k, 10, none⟩ v10).setCell ⟨k, 11, none⟩ v11).setCell ⟨k, 12, none⟩ v12) := (below_set' (below_set' (below_set' (below_set' (below_set' (below_set' (below_set' (below_set' (below_set' (below_set' (below_set' (below_set' (below_set' h hk) hk) hk) hk) hk) hk) hk) hk) hk) hk) hk) hk) hk)
theorem set13_stays {w : World} {n k : Nat} {y0 y1 y2 y3 y4 y5 y6 y7 y8 y9 y10 y11 y12 : Value} (h : w.heap[k]? = some (.cells #[y0, y1, y2, y3, y4, y5, y6, y7, y8, y9, y10, y11, y12] 28 (0, 0))) (v0 v1 v2 v3 v4 v5 v6 v7 v8 v9 v10 v11 v12 : Value) : Stays w (((((((((((((w.setCell ⟨k, 0, none⟩ v0).setCell ⟨k, 1, none⟩ v1).setCell ⟨k, 2, none⟩ v2).setCell ⟨k, 3, none⟩ v3).setCell ⟨k, 4, none⟩ v4).setCell ⟨k, 5, none⟩ v5).setCell ⟨k, 6, none⟩ v6).setCell ⟨k, 7, none⟩ v7).setCell ⟨k, 8, none⟩ v8).setCell ⟨k, 9, none⟩ v9).setCell ⟨k, 10, none⟩ v10).setCell ⟨k, 11, none⟩ v11).setCell ⟨k, 12, none⟩ v12) (Fresh n [3]) (Fresh n [3]) := fun j t cells fr ho hh => ⟨ho, by
  have hne : j ≠ k := by
    rintro rfl
    rw [h] at hh; injection hh with hh; injection hh with _ e _
    have := ho.1.2; rw [← e] at this; revert this; decide
  rw [heap_setCell_other _ ⟨k, 12, none⟩ j _ hne, heap_setCell_other _ ⟨k, 11, none⟩ j _ hne, heap_setCell_other _ ⟨k, 10, none⟩ j _ hne, heap_setCell_other _ ⟨k, 9, none⟩ j _ hne, heap_setCell_other _ ⟨k, 8, none⟩ j _ hne, heap_setCell_other _ ⟨k, 7, none⟩ j _ hne, heap_setCell_other _ ⟨k, 6, none⟩ j _ hne, heap_setCell_other _ ⟨k, 5, none⟩ j _ hne, heap_setCell_other _ ⟨k, 4, none⟩ j _ hne, heap_setCell_other _ ⟨k, 3, none⟩ j _ hne, heap_setCell_other _ ⟨k, 2, none⟩ j _ hne, heap_setCell_other _ ⟨k, 1, none⟩ j _ hne, heap_setCell_other _ ⟨k, 0, none⟩ j _ hne]
  exact hh⟩
set_option maxRecDepth 100000 in
set_option maxHeartbeats 2000000 in
theorem r6bare_join (a b k : Int) (name : ByteArray) (anti : Bool) (A1 A2 A3 A4 A5 A6 A7 : Option Addr) (c1 c2 l3 c3 l4 c4 l5 c5 l6 c6 l7 c7 : Nat) (cols others : List Int) (w : World) (h1 : RdI w AnyB (.slice A1 cols.length c1) cols) (h2 : RdI w AnyB (.slice A2 others.length c2) others) :
    Calls Tryz.prog 229 #[.agg #[.int .i64 5, .int .i64 a, .int .i64 b, .int .i64 k, .string name, .bool anti, .slice A1 cols.length c1, .slice A2 others.length c2, .slice A3 l3 c3, .slice A4 l4 c4, .slice A5 l5 c5, .slice A6 l6 c6, .slice A7 l7 c7]] w fun e w' => (∃ (B1 B2 : Option Addr) (d1 d2 : Nat), e = .returned (.agg #[.int .i64 5, .int .i64 a, .int .i64 b, .int .i64 0, .string ⟨#[]⟩, .bool false, .slice B1 cols.length d1, .slice B2 others.length d2, .slice none 0 0, .slice none 0 0, .slice none 0 0, .slice none 0 0, .slice none 0 0]) ∧ RdI w' (Fresh w.heap.size [3]) (.slice B1 cols.length d1) cols ∧ RdI w' (Fresh w.heap.size [3]) (.slice B2 others.length d2) others) ∧ Below w.heap.size w w' := by
  have HI1 := As.mk (fun W (hB : Below w.heap.size w W) => r6ints_any _ cols W (h1.ext hB))
  have HI2 := As.mk (fun W (hB : Below w.heap.size w W) => r6ints_any _ others W (h2.ext hB))
  clear h1 h2
  obtain ⟨W0, hW0⟩ : ∃ W0, W0 = ((w.alloc (.cells #[.int .i64 5, .int .i64 a, .int .i64 b, .int .i64 k, .string name, .bool anti, .slice A1 cols.length c1, .slice A2 others.length c2, .slice A3 l3 c3, .slice A4 l4 c4, .slice A5 l5 c5, .slice A6 l6 c6, .slice A7 l7 c7] 28)).alloc (.cells #[.int .i64 0, .int .i64 0, .int .i64 0, .int .i64 0, .string ⟨#[]⟩, .bool false, .slice none 0 0, .slice none 0 0, .slice none 0 0, .slice none 0 0, .slice none 0 0, .slice none 0 0, .slice none 0 0] 28)).alloc (.cells #[.int .i64 5, .int .i64 a, .int .i64 b, .int .i64 0, .string ⟨#[]⟩, .bool false, .slice none 0 0, .slice none 0 0, .slice none 0 0, .slice none 0 0, .slice none 0 0, .slice none 0 0, .slice none 0 0] 28) := ⟨_, rfl⟩
  have hs0 : W0.heap.size = w.heap.size + 3 := by rw [hW0]; simp
  have hN : W0.heap[w.heap.size]? = some (.cells #[.int .i64 5, .int .i64 a, .int .i64 b, .int .i64 k, .string name, .bool anti, .slice A1 cols.length c1, .slice A2 others.length c2, .slice A3 l3 c3, .slice A4 l4 c4, .slice A5 l5 c5, .slice A6 l6 c6, .slice A7 l7 c7] 28 (0, 0)) := by rw [hW0]; exact alloc_in' (v := w) (by with_reducible (repeat first | exact Ext.refl _ | assumption | apply Ext.alloc | apply Ext.drewN | apply Ext.drew | apply Ext.grow | refine Ext.trans ?_ (by assumption))) rfl
  have hR : W0.heap[w.heap.size + 1]? = some (.cells #[.int .i64 0, .int .i64 0, .int .i64 0, .int .i64 0, .string ⟨#[]⟩, .bool false, .slice none 0 0, .slice none 0 0, .slice none 0 0, .slice none 0 0, .slice none 0 0, .slice none 0 0, .slice none 0 0] 28 (0, 0)) := by rw [hW0]; exact alloc_in' (v := w.alloc (.cells #[.int .i64 5, .int .i64 a, .int .i64 b, .int .i64 k, .string name, .bool anti, .slice A1 cols.length c1, .slice A2 others.length c2, .slice A3 l3 c3, .slice A4 l4 c4, .slice A5 l5 c5, .slice A6 l6 c6, .slice A7 l7 c7] 28)) (by with_reducible (repeat first | exact Ext.refl _ | assumption | apply Ext.alloc | apply Ext.drewN | apply Ext.drew | apply Ext.grow | refine Ext.trans ?_ (by assumption))) (by simp)
  have hO : W0.heap[w.heap.size + 1 + 1]? = some (.cells #[.int .i64 5, .int .i64 a, .int .i64 b, .int .i64 0, .string ⟨#[]⟩, .bool false, .slice none 0 0, .slice none 0 0, .slice none 0 0, .slice none 0 0, .slice none 0 0, .slice none 0 0, .slice none 0 0] 28 (0, 0)) := by rw [hW0]; exact alloc_in' (v := (w.alloc (.cells #[.int .i64 5, .int .i64 a, .int .i64 b, .int .i64 k, .string name, .bool anti, .slice A1 cols.length c1, .slice A2 others.length c2, .slice A3 l3 c3, .slice A4 l4 c4, .slice A5 l5 c5, .slice A6 l6 c6, .slice A7 l7 c7] 28)).alloc (.cells #[.int .i64 0, .int .i64 0, .int .i64 0, .int .i64 0, .string ⟨#[]⟩, .bool false, .slice none 0 0, .slice none 0 0, .slice none 0 0, .slice none 0 0, .slice none 0 0, .slice none 0 0, .slice none 0 0] 28)) (by with_reducible (repeat first | exact Ext.refl _ | assumption | apply Ext.alloc | apply Ext.drewN | apply Ext.drew | apply Ext.grow | refine Ext.trans ?_ (by assumption))) (by simp)
  have HE0 : As (Below w.heap.size w W0) := ⟨by rw [hW0]; exact Ext.below (by with_reducible (repeat first | exact Ext.refl _ | assumption | apply Ext.alloc | apply Ext.drewN | apply Ext.drew | apply Ext.grow | refine Ext.trans ?_ (by assumption)))⟩
  have HN0 := As.mk hN
  have HR0 := As.mk hR
  have HO0 := As.mk hO
  have HS0 := As.mk hs0
  clear hN hR hO hs0
  go_enter Tryz.func229, Tryz.ntmps229
  go_wp2_with (first | (go_at_call 188; refine (r6One_any _ _).mono ?_; rintro e w' ⟨rfl, rfl⟩) | (go_at_call 189; refine (r6Two_any _ _).mono ?_; rintro e w' ⟨rfl, rfl⟩))
  rw [← hW0]
  clear hW0
  refine (HI1.out W0 HE0.out).mono ?_
  rintro e w1 ⟨B1, d1, rfl, hr1, hB1⟩
  have hs0 := HS0.out
  have hN1 := (hB1.block _ (by omega)).trans HN0.out
  have hR1 := (hB1.block _ (by omega)).trans HR0.out
  have hO1 := (hB1.block _ (by omega)).trans HO0.out
  have HB1 := As.mk (HE0.out.trans (hB1.mono HE0.out.size))
  have hs01 := hB1.size
  obtain ⟨w1s, hw1s⟩ : ∃ w1s, w1s = w1.setCell ⟨w.heap.size + 1 + 1, 6, none⟩ (.slice B1 cols.length d1) := ⟨_, rfl⟩
  have hN2 : w1s.heap[w.heap.size]? = some (.cells #[.int .i64 5, .int .i64 a, .int .i64 b, .int .i64 k, .string name, .bool anti, .slice A1 cols.length c1, .slice A2 others.length c2, .slice A3 l3 c3, .slice A4 l4 c4, .slice A5 l5 c5, .slice A6 l6 c6, .slice A7 l7 c7] 28 (0, 0)) := by rw [hw1s, heap_setCell_other _ ⟨w.heap.size + 1 + 1, 6, none⟩ _ _ (by show _ ≠ w.heap.size + 1 + 1; omega)]; exact hN1
  have hR2 : w1s.heap[w.heap.size + 1]? = some (.cells #[.int .i64 0, .int .i64 0, .int .i64 0, .int .i64 0, .string ⟨#[]⟩, .bool false, .slice none 0 0, .slice none 0 0, .slice none 0 0, .slice none 0 0, .slice none 0 0, .slice none 0 0, .slice none 0 0] 28 (0, 0)) := by rw [hw1s, heap_setCell_other _ ⟨w.heap.size + 1 + 1, 6, none⟩ _ _ (by show _ ≠ w.heap.size + 1 + 1; omega)]; exact hR1
  have hO2 : w1s.heap[w.heap.size + 1 + 1]? = some (.cells #[.int .i64 5, .int .i64 a, .int .i64 b, .int .i64 0, .string ⟨#[]⟩, .bool false, .slice B1 cols.length d1, .slice none 0 0, .slice none 0 0, .slice none 0 0, .slice none 0 0, .slice none 0 0, .slice none 0 0] 28 (0, 0)) := by rw [hw1s]; exact heap_setCell_same _ _ 6 _ 28 _ hO1
  have HB1s : As (Below w.heap.size w w1s) := ⟨by rw [hw1s]; exact below_set' HB1.out (by omega)⟩
  have HR1s : As (RdI w1s (Fresh w.heap.size [3]) (.slice B1 cols.length d1) cols) := ⟨by
    rw [hw1s]
    exact (hr1.mv (Stays.mono (ok' := Fresh w.heap.size [3]) fun k t h => ⟨Nat.le_trans (by omega) h.1, h.2⟩)).mv (Stays.set _ (fun t cells fr hh ho => by rw [hO1] at hh; injection hh with hh; injection hh with _ e _; have := ho.2; rw [← e] at this; revert this; decide) _)⟩
  have n7 : w1s.cell? ⟨w.heap.size, 7, none⟩ = some (.slice A2 others.length c2) := by rw [Lib.cell_of_heap hN2]; rfl
  have o6 : w1.cell? ⟨w.heap.size + 1 + 1, 6, none⟩ = some (.slice none 0 0) := by rw [Lib.cell_of_heap hO1]; rfl
  have f6 := Lib.frozen_of_heap hO1 6
  have HN2 := As.mk hN2
  have HR2 := As.mk hR2
  have HO2 := As.mk hO2
  clear hB1 hr1 hN1 hR1 hO1 hN2 hR2 hO2
  have HI2s := As.mk (HI2.out w1s HB1s.out)
  rw [hw1s] at n7 HI2s
  have HWS := As.mk hw1s
  clear hw1s
  go_wp2_with fail
  rw [← HWS.out]
  rw [← HWS.out] at HI2s
  refine HI2s.out.mono ?_
  rintro e w2 ⟨B2, d2, rfl, hr2, hB2⟩
  have hsz := HB1.out.size
  have hss : W0.heap.size ≤ w1s.heap.size := by rw [HWS.out]; simpa using hs01
  have hw1 : w.heap.size + 1 + 1 < w1s.heap.size := by omega
  have hR3 := (hB2.block _ (by omega)).trans HR2.out
  have hO3 := (hB2.block _ hw1).trans HO2.out
  have HB2 := As.mk (HB1s.out.trans (hB2.mono HB1s.out.size))
  obtain ⟨w2s, hw2s⟩ : ∃ w2s, w2s = w2.setCell ⟨w.heap.size + 1 + 1, 7, none⟩ (.slice B2 others.length d2) := ⟨_, rfl⟩
  have hR4 : w2s.heap[w.heap.size + 1]? = some (.cells #[.int .i64 0, .int .i64 0, .int .i64 0, .int .i64 0, .string ⟨#[]⟩, .bool false, .slice none 0 0, .slice none 0 0, .slice none 0 0, .slice none 0 0, .slice none 0 0, .slice none 0 0, .slice none 0 0] 28 (0, 0)) := by rw [hw2s, heap_setCell_other _ ⟨w.heap.size + 1 + 1, 7, none⟩ _ _ (by show _ ≠ w.heap.size + 1 + 1; omega)]; exact hR3
  have hO4 : w2s.heap[w.heap.size + 1 + 1]? = some (.cells #[.int .i64 5, .int .i64 a, .int .i64 b, .int .i64 0, .string ⟨#[]⟩, .bool false, .slice B1 cols.length d1, .slice B2 others.length d2, .slice none 0 0, .slice none 0 0, .slice none 0 0, .slice none 0 0, .slice none 0 0] 28 (0, 0)) := by rw [hw2s]; exact heap_setCell_same _ _ 7 _ 28 _ hO3
  have HB2s : As (Below w.heap.size w w2s) := ⟨by rw [hw2s]; exact below_set' HB2.out (by omega)⟩
  have HR1t : As (RdI w2s (Fresh w.heap.size [3]) (.slice B1 cols.length d1) cols) := ⟨by
    rw [hw2s]
    exact (HR1s.out.ext hB2).mv (Stays.set _ (fun t cells fr hh ho => by rw [hO3] at hh; injection hh with hh; injection hh with _ e _; have := ho.2; rw [← e] at this; revert this; decide) _)⟩
  have HR2t : As (RdI w2s (Fresh w.heap.size [3]) (.slice B2 others.length d2) others) := ⟨by
    rw [hw2s]
    exact (hr2.mv (Stays.mono (ok' := Fresh w.heap.size [3]) fun k t h => ⟨Nat.le_trans (by omega) h.1, h.2⟩)).mv (Stays.set _ (fun t cells fr hh ho => by rw [hO3] at hh; injection hh with hh; injection hh with _ e _; have := ho.2; rw [← e] at this; revert this; decide) _)⟩
  have o7 : w2.cell? ⟨w.heap.size + 1 + 1, 7, none⟩ = some (.slice none 0 0) := by rw [Lib.cell_of_heap hO3]; rfl
  have f7 := Lib.frozen_of_heap hO3 7
  have HWS2 := As.mk hw2s
  have HR4 := As.mk hR4
  have HO4 := As.mk hO4
  obtain ⟨q0, q1, q2, q3, q4, q5, q6, q7, q8, q9, q10, q11, q12⟩ := cells13 hO4
  obtain ⟨s0, s1, s2, s3, s4, s5, s6, s7, s8, s9, s10, s11, s12⟩ := cells13 hR4
  have hfz := fun j => Lib.frozen_of_heap hR4 j
  rw [hw2s] at q0 q1 q2 q3 q4 q5 q6 q7 q8 q9 q10 q11 q12 s0 s1 s2 s3 s4 s5 s6 s7 s8 s9 s10 s11 s12
  simp only [hw2s] at hfz
  clear n7 o6 f6 hB2 hr2 hR3 hO3 hw2s hR4 hO4 hs0 hsz hss hw1 hs01
  go_wp2_with fail
  rw [← HWS2.out]
  (try simp only [Exit.inBlock, Exit.then]); refine bodyPost_ret (results_cell_row rfl _ _ (w.heap.size + 1) 28 _ (0, 0) _ rfl (set13_heap HR4.out _ _ _ _ _ _ _ _ _ _ _ _ _) Tryz.underlying28 rfl (by kernel_rfl)) rfl ?_
  refine ⟨⟨B1, B2, d1, d2, rfl, ?_, ?_⟩, set13_below HB2s.out (Nat.le_succ _) _ _ _ _ _ _ _ _ _ _ _ _ _⟩
  · exact HR1t.out.mv (set13_stays HR4.out _ _ _ _ _ _ _ _ _ _ _ _ _)
  · exact HR2t.out.mv (set13_stays HR4.out _ _ _ _ _ _ _ _ _ _ _ _ _)
end Go.Proofs.YtflckpfpgpfjlaaGreatDoor
end
section
namespace Go.Proofs.YtflckpfpgpfjlaaGreatDoor
open Go.RowKit Go.Sort
set_option maxRecDepth 100000 in
set_option maxHeartbeats 1000000 in
theorem r6count_any (bp op cc : Nat) (a b k : Int) (name : ByteArray) (anti : Bool) (A1 A2 A3 A4 A5 A6 A7 : Option Addr) (l1 l2 c1 c2 l3 c3 l4 c4 l5 c5 l6 c6 l7 c7 : Nat) (w : World)
    (hp : RdN w (.slice (some ⟨bp, op, none⟩) 3 cc) [inNode ⟨#[120]⟩ a, inNode ⟨#[120]⟩ b, [.int .i64 5, .int .i64 0, .int .i64 1, .int .i64 k, .string name, .bool anti, .slice A1 l1 c1, .slice A2 l2 c2, .slice A3 l3 c3, .slice A4 l4 c4, .slice A5 l5 c5, .slice A6 l6 c6, .slice A7 l7 c7]]) :
    Calls Tryz.prog 147 #[.slice (some ⟨bp, op, none⟩) 3 cc, .int .i64 0] w fun e w' => e = .returned (.int .i64 3) ∧ Below w.heap.size w w' := by
  have mixed := mixed
  have hnd : ∀ (j : Nat) (cs : List Value), [inNode ⟨#[120]⟩ a, inNode ⟨#[120]⟩ b, [.int .i64 5, .int .i64 0, .int .i64 1, .int .i64 k, .string name, .bool anti, .slice A1 l1 c1, .slice A2 l2 c2, .slice A3 l3 c3, .slice A4 l4 c4, .slice A5 l5 c5, .slice A6 l6 c6, .slice A7 l7 c7]][j]? = some cs → NdC w bp (op + j * 13) cs := fun j cs hj => by
    obtain ⟨b', o', c', hv, hb', hn⟩ := hp.node hj
    injection hv with hA _ _
    injection hA with hA
    injection hA with hA1 hA2 _
    subst hA1 hA2
    exact hn
  have a0 := hnd 0 _ rfl 0 _ rfl
  have a12 := hnd 0 _ rfl 12 _ rfl
  have b0 := hnd 1 _ rfl 0 _ rfl
  have b12 := hnd 1 _ rfl 12 _ rfl
  have d0 := hnd 2 _ rfl 0 _ rfl
  have d12 := hnd 2 _ rfl 12 _ rfl
  simp only [Nat.zero_add, Nat.add_zero, Nat.reduceAdd, Nat.zero_mul, Nat.one_mul, Nat.reduceMul] at a0 a12 b0 b12 d0 d12
  clear hnd hp
  go_enter Tryz.func147, Tryz.ntmps147
  go_wp2_with fail
  go_loopg [5, 6, 7] 3 (fun g s5 s6 _ wr => ∃ i : Nat, i ≤ 3 ∧ 3 - i ≤ g ∧ s5 = .int .i64 3 ∧ s6 = .int .i64 i ∧ wr = w)
  case atStart => exact ⟨0, by omega, by omega, by go_num, by go_num, rfl⟩
  case round =>
    obtain ⟨i, hi, hg, rfl, rfl, rfl⟩ := hrel
    have h4 : i = 0 ∨ i = 1 ∨ i = 2 ∨ i = 3 := by omega
    rcases h4 with rfl | rfl | rfl | rfl
    · go_wp2_with fail
      go_loopg [5, 7] 0 (fun g s5 s7 wr' => s5 = .int .i64 3 ∧ s7 = .int .i64 0 ∧ wr' = wr)
      case atStart => exact ⟨rfl, rfl, rfl⟩
      case round =>
        obtain ⟨rfl, rfl, rfl⟩ := hrel
        go_wp2_with fail
        go_roundg 2
        case measure => omega
        case rel => exact ⟨1, by omega, by omega, rfl, rfl, rfl⟩
    · go_wp2_with fail
      go_loopg [5, 7] 0 (fun g s5 s7 wr' => s5 = .int .i64 3 ∧ s7 = .int .i64 0 ∧ wr' = wr)
      case atStart => exact ⟨rfl, rfl, rfl⟩
      case round =>
        obtain ⟨rfl, rfl, rfl⟩ := hrel
        go_wp2_with fail
        go_roundg 1
        case measure => omega
        case rel => exact ⟨2, by omega, by omega, rfl, rfl, rfl⟩
    · go_wp2_with fail
      go_loopg [5, 7] 0 (fun g s5 s7 wr' => s5 = .int .i64 3 ∧ s7 = .int .i64 0 ∧ wr' = wr)
      case atStart => exact ⟨rfl, rfl, rfl⟩
      case round =>
        obtain ⟨rfl, rfl, rfl⟩ := hrel
        by_cases h7 : (0 : Int) < (l7 : Int)
        · go_wp2_with fail
          go_roundg 0
          case measure => omega
          case rel => exact ⟨3, by omega, by omega, rfl, rfl, rfl⟩
        · go_wp2_with fail
          go_roundg 0
          case measure => omega
          case rel => exact ⟨3, by omega, by omega, rfl, rfl, rfl⟩
    · go_wp2_with fail
      go_ret
      exact ⟨rfl, Below.refl _ _⟩
def NPlan (a b k : Int) (name : ByteArray) (anti : Bool) (A1 A2 A3 A4 A5 A6 A7 : Option Addr) (l1 c1 l2 c2 l3 c3 l4 c4 l5 c5 l6 c6 l7 c7 : Nat) : List (List Value) := [inNode ⟨#[120]⟩ a, inNode ⟨#[120]⟩ b, [.int .i64 5, .int .i64 0, .int .i64 1, .int .i64 k, .string name, .bool anti, .slice A1 l1 c1, .slice A2 l2 c2, .slice A3 l3 c3, .slice A4 l4 c4, .slice A5 l5 c5, .slice A6 l6 c6, .slice A7 l7 c7]]
def W6Res (cols others : List Int) (a b : Int) (w : World) (e : Ending) (w' : World) : Prop := Below w.heap.size w w' ∧ ((joinOk cols others a b = true ∧ e = .returned (.int .i64 (a + b)) ∧ 0 ≤ a + b) ∨ (joinOk cols others a b = false ∧ e = .returned (.int .i64 (-1))))
set_option maxRecDepth 100000 in
set_option maxHeartbeats 1000000 in
theorem r6Width_any (bp op cc : Nat) (a b k : Int) (name : ByteArray) (anti : Bool) (A1 A2 A3 A4 A5 A6 A7 : Option Addr) (c1 c2 l3 c3 l4 c4 l5 c5 l6 c6 l7 c7 : Nat) (cols others : List Int) (w : World)
    (h1 : RdI w AnyB (.slice A1 cols.length c1) cols) (h2 : RdI w AnyB (.slice A2 others.length c2) others) (ha : i64 a) (hb : i64 b)
    (hp : RdN w (.slice (some ⟨bp, op, none⟩) 3 cc) (NPlan a b k name anti A1 A2 A3 A4 A5 A6 A7 cols.length c1 others.length c2 l3 c3 l4 c4 l5 c5 l6 c6 l7 c7)) :
    Calls Tryz.prog 89 #[.slice (some ⟨bp, op, none⟩) 3 cc] w (W6Res cols others a b w) := by
  have mixed := mixed
  have HW := As.mk (r6Widths_any bp op cc a b k name anti A1 A2 A3 A4 A5 A6 A7 c1 c2 l3 c3 l4 c4 l5 c5 l6 c6 l7 c7 cols others w h1 h2 ha hb hp)
  have HC := As.mk (fun W (hB : Below w.heap.size w W) => r6count_any bp op cc a b k name anti A1 A2 A3 A4 A5 A6 A7 cols.length others.length c1 c2 l3 c3 l4 c4 l5 c5 l6 c6 l7 c7 W (hp.ext hB))
  clear h1 h2 hp
  go_enter Tryz.func89, Tryz.ntmps89
  go_wp2_with fail
  refine HW.out.mono ?_
  rintro e w1 ⟨hB, h⟩
  have HB := As.mk hB
  cases hj : joinOk cols others a b with
  | false =>
    rw [hj, if_neg (by decide)] at h
    subst h
    have HJ := As.mk hj
    clear hj hB
    go_wp2_with fail
    go_ret
    exact ⟨HB.out, .inr ⟨HJ.out, rfl⟩⟩
  | true =>
    rw [hj, if_pos rfl] at h
    obtain ⟨P, cp, rfl, hr⟩ := h
    obtain ⟨bo, oo, co, hv, hbo, _, g2⟩ := hr.val (j := 2) (x := a + b) rfl
    injection hv with hA hn hcc
    subst hA hcc
    have HJ := As.mk hj
    have hab : 0 ≤ a + b := by unfold joinOk at hj; simp at hj; omega
    have HAB := As.mk hab
    clear hj hB hr hn hab
    have HC1 := As.mk (HC.out w1 HB.out)
    have HG2 := As.mk g2
    clear g2
    go_wp2_with fail
    refine HC1.out.mono ?_
    rintro e w2 ⟨rfl, hB2⟩
    have HB2 := As.mk (HB.out.trans (hB2.mono HB.out.size))
    have g2 := bc hB2 HG2.out
    clear hB2
    go_wp2_with fail
    go_ret
    exact ⟨HB2.out, .inl ⟨HJ.out, rfl, HAB.out⟩⟩
end Go.Proofs.YtflckpfpgpfjlaaGreatDoor
end
