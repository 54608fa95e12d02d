/- The reference's node of a join. -/
import Derived.Test.YtflckpfpgpfjlaaGreatDoorMNi
import Derived.Test.YtflckpfpgpfjlaaGreatDoorMNr
set_option linter.unusedVariables false
set_option linter.unusedSimpArgs false
namespace Go.Proofs.YtflckpfpgpfjlaaGreatDoor
open Go.RowKit Go.Sort
theorem alloc_in {v W : World} {o : Obj} (hE : Ext (v.alloc o) W) {k : Nat} (hk : k = v.heap.size) : W.heap[k]? = some o := by
  subst hk
  rw [hE.below.block _ (by simp)]
  exact heap_alloc_new v o
def JoinN (lc rc : List Int) (nl nr : Nat) (zs : List (List GE)) (k : Int) (y : List GE) : Prop := ∃ a z, zs = [a, z] ∧ ((¬ Small lc rc a z ∧ k = 14) ∨ (Small lc rc a z ∧ k = 0 ∧ JRes lc rc nl nr a z y))
set_option maxRecDepth 100000 in
set_option maxHeartbeats 4000000 in
theorem r7Node_join (m1 m2 nk wb : Int) (name : ByteArray) (anti : Bool) (A1 A2 A3 A4 A5 A6 A7 PA PB : Option Addr) (c1 c2 l3 c3 l4 c4 l5 c5 l6 c6 l7 c7 n1 n2 ca cb : Nat) (lc rc : List Int) (nl nr : Nat) (a z : List GE) (w : World) (h1 : RdI w AnyB (.slice A1 lc.length c1) lc) (h2 : RdI w AnyB (.slice A2 rc.length c2) rc)
    (ha : RdZ w AnyB (.slice PA n1 ca) a) (hb : RdZ w AnyB (.slice PB n2 cb) z) (WA : WBag nl a) (WB : WBag nr z) (hcol : Cols2 lc rc nl nr) (hl : a.length * z.length ≤ 4000000) :
    Calls Tryz.prog 48 #[.agg #[.slice none 0 0, .slice none 0 0, .int .i64 1], .agg #[.int .i64 5, .int .i64 m1, .int .i64 m2, .int .i64 nk, .string name, .bool anti, .slice A1 lc.length c1, .slice A2 rc.length c2, .slice A3 l3 c3, .slice A4 l4 c4, .slice A5 l5 c5, .slice A6 l6 c6, .slice A7 l7 c7], .agg #[.slice PA n1 ca, .int .i64 0], .agg #[.slice PB n2 cb, .int .i64 0], .slice none 0 0, .int .i64 wb] w (RJoinPost lc rc nl nr a z w) := by
  have mixed := mixed
  have HJ := As.mk (fun W (hB : Below w.heap.size w W) => r7join_any (.slice PA n1 ca) (.slice PB n2 cb) (.slice A1 lc.length c1) (.slice A2 rc.length c2) lc rc a z nl nr W (ha.ext hB) (hb.ext hB) (h1.ext hB) (h2.ext hB) WA WB hcol hl)
  clear h1 h2 ha hb WA WB hcol hl
  obtain ⟨W0, hW0⟩ : ∃ W0, W0 = ((((w.alloc (.cells #[.slice none 0 0, .slice none 0 0, .int .i64 1] 106)).alloc (.cells #[.int .i64 5, .int .i64 m1, .int .i64 m2, .int .i64 nk, .string name, .bool anti, .slice A1 lc.length c1, .slice A2 rc.length c2, .slice A3 l3 c3, .slice A4 l4 c4, .slice A5 l5 c5, .slice A6 l6 c6, .slice A7 l7 c7] 28)).alloc (.cells #[.slice PA n1 ca, .int .i64 0] 103)).alloc (.cells #[.slice PB n2 cb, .int .i64 0] 103)).alloc (.cells #[.slice none 0 0, .int .i64 0] 103) := ⟨_, rfl⟩
  have hs0 : W0.heap.size = w.heap.size + 5 := by rw [hW0]; simp
  have hnd : W0.heap[w.heap.size + 1]? = some (.cells #[.int .i64 5, .int .i64 m1, .int .i64 m2, .int .i64 nk, .string name, .bool anti, .slice A1 lc.length c1, .slice A2 rc.length c2, .slice A3 l3 c3, .slice A4 l4 c4, .slice A5 l5 c5, .slice A6 l6 c6, .slice A7 l7 c7] 28 (0, 0)) := by
    rw [hW0]; exact alloc_in (v := w.alloc (.cells #[.slice none 0 0, .slice none 0 0, .int .i64 1] 106)) (by with_reducible (repeat first | exact Ext.refl _ | assumption | apply Ext.alloc | apply Ext.drewN | apply Ext.drew | apply Ext.grow | refine Ext.trans ?_ (by assumption))) (by simp)
  have hpa : W0.heap[w.heap.size + 2]? = some (.cells #[.slice PA n1 ca, .int .i64 0] 103 (0, 0)) := by
    rw [hW0]; exact alloc_in (v := (w.alloc (.cells #[.slice none 0 0, .slice none 0 0, .int .i64 1] 106)).alloc (.cells #[.int .i64 5, .int .i64 m1, .int .i64 m2, .int .i64 nk, .string name, .bool anti, .slice A1 lc.length c1, .slice A2 rc.length c2, .slice A3 l3 c3, .slice A4 l4 c4, .slice A5 l5 c5, .slice A6 l6 c6, .slice A7 l7 c7] 28)) (by with_reducible (repeat first | exact Ext.refl _ | assumption | apply Ext.alloc | apply Ext.drewN | apply Ext.drew | apply Ext.grow | refine Ext.trans ?_ (by assumption))) (by simp)
  have hpb : W0.heap[w.heap.size + 3]? = some (.cells #[.slice PB n2 cb, .int .i64 0] 103 (0, 0)) := by
    rw [hW0]; exact alloc_in (v := ((w.alloc (.cells #[.slice none 0 0, .slice none 0 0, .int .i64 1] 106)).alloc (.cells #[.int .i64 5, .int .i64 m1, .int .i64 m2, .int .i64 nk, .string name, .bool anti, .slice A1 lc.length c1, .slice A2 rc.length c2, .slice A3 l3 c3, .slice A4 l4 c4, .slice A5 l5 c5, .slice A6 l6 c6, .slice A7 l7 c7] 28)).alloc (.cells #[.slice PA n1 ca, .int .i64 0] 103)) (by with_reducible (repeat first | exact Ext.refl _ | assumption | apply Ext.alloc | apply Ext.drewN | apply Ext.drew | apply Ext.grow | refine Ext.trans ?_ (by assumption))) (by simp)
  have hrs : W0.heap[w.heap.size + 4]? = some (.cells #[.slice none 0 0, .int .i64 0] 103 (0, 0)) := by
    rw [hW0]
    have := heap_alloc_new ((((w.alloc (.cells #[.slice none 0 0, .slice none 0 0, .int .i64 1] 106)).alloc (.cells #[.int .i64 5, .int .i64 m1, .int .i64 m2, .int .i64 nk, .string name, .bool anti, .slice A1 lc.length c1, .slice A2 rc.length c2, .slice A3 l3 c3, .slice A4 l4 c4, .slice A5 l5 c5, .slice A6 l6 c6, .slice A7 l7 c7] 28)).alloc (.cells #[.slice PA n1 ca, .int .i64 0] 103)).alloc (.cells #[.slice PB n2 cb, .int .i64 0] 103)) (.cells #[.slice none 0 0, .int .i64 0] 103)
    simpa using this
  have HE0 : As (Below w.heap.size w W0) := ⟨by rw [hW0]; exact Ext.below (by with_reducible (repeat first | exact Ext.refl _ | assumption | apply Ext.alloc | apply Ext.drewN | apply Ext.drew | apply Ext.grow | refine Ext.trans ?_ (by assumption)))⟩
  have HRS0 := As.mk hrs
  have n0 : W0.cell? ⟨w.heap.size + 1, 0, none⟩ = some (.int .i64 5) := by rw [Lib.cell_of_heap hnd]; rfl
  have n6 : W0.cell? ⟨w.heap.size + 1, 6, none⟩ = some (.slice A1 lc.length c1) := by rw [Lib.cell_of_heap hnd]; rfl
  have n7 : W0.cell? ⟨w.heap.size + 1, 7, none⟩ = some (.slice A2 rc.length c2) := by rw [Lib.cell_of_heap hnd]; rfl
  have p0 : W0.cell? ⟨w.heap.size + 2, 0, none⟩ = some (.slice PA n1 ca) := by rw [Lib.cell_of_heap hpa]; rfl
  have q0 : W0.cell? ⟨w.heap.size + 3, 0, none⟩ = some (.slice PB n2 cb) := by rw [Lib.cell_of_heap hpb]; rfl
  clear hnd hpa hpb hrs
  go_enter Tryz.func48, Tryz.ntmps48
  go_wp2_with (go_at_call 95; refine (r5Least_any _ _ _).mono ?_; rintro e w' ⟨⟨k5, rfl, hk5⟩, rfl⟩; obtain rfl := hk5 rfl)
  rw [← hW0]
  clear hk5 hW0
  go_loopg [13, 14] 0 (fun g s13 s14 wr => s13 = .int .i64 0 ∧ s14 = .int .i64 0 ∧ wr = W0)
  case atStart => exact ⟨rfl, rfl, rfl⟩
  case round =>
    obtain ⟨rfl, rfl, rfl⟩ := hrel
    go_wp2_with fail
    refine (HJ.out wr HE0.out).mono ?_
    rintro e w1 ⟨hB, h⟩
    have hrs := (hB.block _ (by omega)).trans HRS0.out
    have HRS := As.mk hrs
    obtain ⟨r0, r1, _⟩ := cells2 hrs
    have hz0 := Lib.frozen_of_heap hrs 0
    have hz1 := Lib.frozen_of_heap hrs 1
    have HB := As.mk (HE0.out.trans (hB.mono HE0.out.size))
    have hle : w.heap.size + 4 < wr.heap.size := by omega
    have hle0 : w.heap.size ≤ w.heap.size + 4 := by omega
    clear hB hrs n0 n6 n7 p0 q0
    rcases h with ⟨hns, rfl⟩ | ⟨hsm, P9, c9, y, rfl, hres, hrd, hyl⟩
    · have HNS := As.mk hns
      clear hns
      go_wp2_with fail
      ((try simp only [Exit.inBlock, Exit.then]); refine bodyPost_ret (results_cell_row rfl _ _ (w.heap.size + 4) 103 _ (0, 0) _ rfl (set2_heap HRS.out) Tryz.underlying103 rfl (by kernel_rfl)) rfl ?_)
      exact ⟨below_set (below_set HB.out hle0) hle0, .inl ⟨HNS.out, rfl⟩⟩
    · have HSM := As.mk hsm
      have HRES := As.mk hres
      have HRD := As.mk hrd
      clear hsm hres hrd
      go_wp2_with fail
      ((try simp only [Exit.inBlock, Exit.then]); refine bodyPost_ret (results_cell_row rfl _ _ (w.heap.size + 4) 103 _ (0, 0) _ rfl (set2_heap HRS.out) Tryz.underlying103 rfl (by kernel_rfl)) rfl ?_)
      exact ⟨below_set (below_set HB.out hle0) hle0, .inr ⟨HSM.out, _, _, y, rfl, HRES.out, (rdz2_poke2 HRD.out hle).low (by omega), hyl⟩⟩
end Go.Proofs.YtflckpfpgpfjlaaGreatDoor
