/- The walks of a spine's join, Compact and settle. -/
import Derived.Test.YtmpndmjfdijamaaGreatDoorWeight
import Derived.BigQuiet
set_option linter.unusedVariables false
set_option linter.unusedSimpArgs false
namespace Go.Proofs.YtmpndmjfdijamaaGreatDoor
open Go.RowKit Go.Sort
section
variable {base b : Nat} {w w' w'' : World}
theorem Mut.refl (base b : Nat) (w : World) : Mut base b w w := ⟨rfl, rfl, rfl, Nat.le_refl _, fun _ _ h _ _ => h⟩
theorem Mut.trans (h : Mut base b w w') (k : Mut base b w' w'') : Mut base b w w'' :=
  ⟨k.os.trans h.os, k.tape.trans h.tape, k.output.trans h.output, Nat.le_trans h.size k.size, fun i o hi hb ho => k.block i o (h.block i o hi hb ho) hb ho⟩
theorem Mut.ext (h : Mut base b w w') (k : Below w'.heap.size w' w'') : Mut base b w w'' :=
  ⟨k.os.trans h.os, k.tape.trans h.tape, k.output.trans h.output, Nat.le_trans h.size k.size, fun i o hi hb ho => let h2 := h.block i o hi hb ho; (k.block i (Array.getElem?_eq_some_iff.1 h2).1).trans h2⟩
theorem Mut.set (h : Mut base b w w') (i : Nat) (v : Value) : Mut base b w (w'.setCell ⟨b, i, none⟩ v) :=
  ⟨h.os, h.tape, h.output, by simpa using h.size, fun k o hk hb ho => by rw [Below.heap_setCell _ _ _ _ hb]; exact h.block k o hk hb ho⟩
theorem Mut.grown (h : Mut base b w w') {row : Option Nat} (hg : w'.grownBy w'' row) (hrow : ∀ g, row = some g → base ≤ g ∧ ∃ c fz, w'.heap[g]? = some (.cells c 70 fz)) : Mut base b w w'' := by
  refine ⟨hg.os.trans h.os, hg.tape.trans h.tape, hg.output.trans h.output, Nat.le_trans h.size hg.size, fun k o hk hb ho => ?_⟩
  have h2 := h.block k o hk hb ho
  refine (hg.block k (Array.getElem?_eq_some_iff.1 h2).1 fun e => ?_).trans h2
  obtain ⟨h3, c, fz, h4⟩ := hrow k e.symm
  rw [h2] at h4
  rcases ho with ho | ho
  · omega
  · exact ho c fz (Option.some.inj h4)
theorem Mut.stays (h : Mut base b w w') {cs : Array Value} {fr : Nat × Nat} (hb : w.heap[b]? = some (.cells cs 69 fr)) {ok ok' : Blk} (hok : ∀ k t, ok k t → t ≠ 69 ∧ t ≠ 70 ∧ ok' k t) : Stays w w' ok ok' := by
  intro k t cells f ho hh
  obtain ⟨h1, h2, h3⟩ := hok k t ho.1
  refine ⟨ho.mono fun t h => (hok k t h).2.2, h.block k _ hh ?_ (.inr fun c fz e => ?_)⟩
  · rintro rfl
    rw [hb] at hh
    injection hh with hh
    injection hh with _ h4 _
    exact h1 h4.symm
  · injection e with _ h4 _
    exact h2 h4
theorem Mut.below (h : Mut base b w w') {B : Nat} (h1 : B ≤ base) (h2 : B ≤ b) (hB : B ≤ w.heap.size) : Below B w w' :=
  ⟨h.os, h.tape, h.output, h.size, fun k hk => by
    have hlt : k < w.heap.size := by omega
    rw [h.block k _ (Array.getElem?_eq_getElem hlt) (by omega) (.inl (by omega)), Array.getElem?_eq_getElem hlt]⟩
end
theorem OwnL.set {α : Type} {sz : Nat} {E : α → List Value → Prop} {e T : TypeId} {w : World} {base : Nat} {v : Value} {xs : List α} {cs : Array Value} {fr : Nat × Nat} (h : OwnL sz E e w base v xs) {p : Addr} (hp : w.heap[p.block]? = some (.cells cs T fr)) (hT : T ≠ e) (u : Value) : OwnL sz E e (w.setCell p u) base v xs := by
  have hne : v.ownBlock ≠ some p.block := fun hk => by
    obtain ⟨cells, hc⟩ := h.typed _ hk
    rw [hp] at hc
    injection hc with hc
    injection hc with _ h2 _
    exact hT h2
  obtain ⟨ds, ho, hr, h1, hl⟩ := h
  exact ⟨ds, ownsRow_setCell_other ho hne u, hr, h1, hl⟩
theorem OwnL.stays {α : Type} {sz : Nat} {E E' : α → List Value → Prop} {e : TypeId} {w : World} {base : Nat} {v : Value} {xs : List α} (h : OwnL sz E e w base v xs) (hE : ∀ x cs, E x cs → E' x cs) : OwnL sz E' e w base v xs := h.imp hE
theorem tag_eq {w : World} {k : Nat} {a c : Array Value} {T T' : TypeId} {f f' : Nat × Nat} (h : w.heap[k]? = some (.cells a T f)) (h' : w.heap[k]? = some (.cells c T' f')) : T = T' := by
  rw [h] at h'
  injection h' with h'
  injection h' with _ h2 _
theorem fresh_own {base : Nat} : ∀ k t, Fresh base [72, 55] k t → t ≠ 69 ∧ t ≠ 70 ∧ Fresh base [72, 55] k t := by
  intro k t h
  have h2 := h.2
  simp only [List.mem_cons, List.not_mem_nil, or_false] at h2
  rcases h2 with rfl | rfl
  · exact ⟨by decide, by decide, h⟩
  · exact ⟨by decide, by decide, h⟩
theorem fresh_cols {base : Nat} : ∀ k t, Fresh base [3] k t → t ≠ 69 ∧ t ≠ 70 ∧ Fresh base [3] k t := by
  intro k t h
  have h2 := h.2
  simp only [List.mem_cons, List.not_mem_nil, or_false] at h2
  subst h2
  exact ⟨by decide, by decide, h⟩
theorem info_items : (Tryz.prog.info? 70).map (fun i => (i.zero, i.size, i.bytes)) = some (some (.slice none 0 0), 1, 24) := by kernel_rfl
theorem set3_heap {w : World} {k : Nat} {a b c b' : Value} {T : TypeId} (h : w.heap[k]? = some (.cells #[a, b, c] T (0, 0))) :
    (w.setCell ⟨k, 1, none⟩ b').heap[k]? = some (.cells #[a, b', c] T (0, 0)) := by
  have h1 := heap_setCell_same w k 1 _ T b' h
  simpa using h1
/-- A batch has been appended: what is to be stored. -/
theorem sp_push {base b : Nat} {w w3 : World} {u bv v3 : Value} {live : Int} {cols : List Int} {pre : List (List GI)} {m : List GI}
    (hb : w.heap[b]? = some (.cells #[u, bv, .int .i64 live] 69 (0, 0))) (hcs : RdI w (Fresh 0 [3]) u cols) (hu : OwnL 1 (EBt w (Fresh base [72, 55])) 70 w base bv pre)
    (hown : OwnL 1 (EBt w (Fresh base [72, 55])) 70 w3 base v3 (pre ++ [m])) (hg : w.grownBy w3 bv.ownBlock) :
    ∃ A3 c3, v3 = .slice A3 (pre.length + 1) c3 ∧ w3.heap[b]? = some (.cells #[u, bv, .int .i64 live] 69 (0, 0)) ∧
      SpAt base b (w3.setCell ⟨b, 1, none⟩ (.slice A3 (pre.length + 1) c3)) ⟨cols, pre ++ [m], live⟩ ∧ Mut base b w (w3.setCell ⟨b, 1, none⟩ (.slice A3 (pre.length + 1) c3)) := by
  have hrow : ∀ g, bv.ownBlock = some g → base ≤ g ∧ ∃ c fz, w.heap[g]? = some (.cells c 70 fz) := fun g hg => ⟨(hu.lt g hg).1, let ⟨c, hc⟩ := hu.typed g hg; ⟨c, _, hc⟩⟩
  have hne : bv.ownBlock ≠ some b := fun hg => let ⟨_, c, fz, hc⟩ := hrow b hg; absurd (tag_eq hb hc) (by decide)
  have hb3 := (hg.block b (Array.getElem?_eq_some_iff.1 hb).1 (fun e => hne e.symm)).trans hb
  obtain ⟨A3, c3, rfl, _⟩ := hown.shape
  rw [show (pre ++ [m]).length = pre.length + 1 by simp] at hown ⊢
  have hM := ((Mut.refl base b w).grown hg hrow).set 1 (.slice A3 (pre.length + 1) c3)
  refine ⟨A3, c3, rfl, hb3, ⟨_, _, set3_heap hb3, hcs.mv (hM.stays hb fresh_cols), ?_⟩, hM⟩
  exact (hown.set (p := ⟨b, 1, none⟩) hb3 (by decide) _).imp fun _ _ h => EBt.mv h (hM.stays hb fresh_own)
/-- The last two batches as one. -/
def joinL (pre : List (List GI)) (x y : List GI) : List (List GI) := if mergeL x y = [] then pre else pre ++ [mergeL x y]
set_option maxRecDepth 100000 in
set_option maxHeartbeats 4000000 in
theorem join_any (base b : Nat) (cols : List Int) (pre : List (List GI)) (x y : List GI) (live : Int) (w : World) (hbw : base ≤ w.heap.size) (h : SpAt base b w ⟨cols, pre ++ [x, y], live⟩) (hl : x.length + y.length ≤ 4294967296) :
    Calls Tryz.prog 40 #[.pointer (some ⟨b, 0, none⟩)] w fun r w' => r = .returned (.tuple #[]) ∧ SpAt base b w' ⟨cols, joinL pre x y, live⟩ ∧ Mut base b w w' := by
  obtain ⟨u, bv, hb, hcs, hbs⟩ := h
  simp only at *
  obtain ⟨A, c, rfl, hc⟩ := hbs.shape
  obtain ⟨i0, hi, hzz⟩ := Option.map_eq_some_iff.1 info_items
  simp only [Prod.mk.injEq] at hzz
  obtain ⟨hz0, hz1, hz2⟩ := hzz
  have hlen : (pre ++ [x, y]).length = pre.length + 2 := by simp
  have hrd := hbs.rd (ok := AnyB) fun _ _ => trivial
  have hll := hbs.len
  rw [hlen] at hll hc
  obtain ⟨b0, o, c', hv, hb0, cs, _, ⟨vx, rfl, hvx⟩, _, hcx⟩ := hrd.at (j := pre.length) (x := x) (by simp)
  obtain ⟨b0', o', c'', hv', hb0', cs, _, ⟨vy, rfl, hvy⟩, _, hcy⟩ := hrd.at (j := pre.length + 1) (x := y) (by rw [List.getElem?_append_right (by omega)]; simp)
  injection hv with hA _ hcc
  subst hA hcc
  injection hv' with hA _ hcc
  subst hcc
  injection hA with hA
  injection hA with h1 h2 _
  subst h1 h2
  have e0 := hcx 0 vx rfl
  have e1 := hcy 0 vy rfl
  simp only [Nat.mul_one, Nat.add_zero] at e0 e1
  obtain ⟨Ax, cx, rfl, _⟩ := hvx.shape
  obtain ⟨Ay, cy, rfl, _⟩ := hvy.shape
  obtain ⟨c0, c1, c2, z0, z1, z2⟩ := spine_cells hb
  have h1 := fun W (hE : Ext w W) => merged_any _ _ x y _ W (hvx.ext hE.below) (hvy.ext hE.below) hl
  rw [hlen] at hb c1
  have hup := hbs.upto Tryz.underlying67 hi hz1 pre.length (by rw [hlen]; omega) .i64
  rw [hlen] at hup
  have hup1 := hup.1
  have HU := As.mk hup.2
  rw [List.take_left] at HU
  have HBW := As.mk hb
  have HCS := As.mk hcs
  clear hbs hrd hvx hvy hcx hcy hup hcs hb hi hz0 hz1 hz2
  have HJ : As (joinL pre x y = if mergeL x y = [] then pre else pre ++ [mergeL x y]) := ⟨rfl⟩
  generalize joinL pre x y = jl at *
  generalize mergeL x y = m at *
  have k1 : IntKind.i64.wrap (((pre.length : Int) + 2) - 2) = (pre.length : Int) := by rw [IntKind.wrap_i64]; omega
  have k2 : IntKind.i64.wrap (((pre.length : Int) + 2) - 1) = (pre.length : Int) + 1 := by rw [IntKind.wrap_i64]; omega
  have k3 : IntKind.i64.wrap (pre.length : Int) = (pre.length : Int) := by rw [IntKind.wrap_i64]; omega
  have k4 : IntKind.i64.wrap ((pre.length : Int) + 1) = (pre.length : Int) + 1 := by rw [IntKind.wrap_i64]; omega
  have k5 : ((pre.length : Int) + 1).toNat = pre.length + 1 := by omega
  have k6 : (pre.length : Int) < (pre.length : Int) + 2 := by omega
  have k7 : (pre.length : Int) + 1 < (pre.length : Int) + 2 := by omega
  have k8 : 0 ≤ (pre.length : Int) + 1 := by omega
  go_enter Tryz.func40, Tryz.ntmps40
  go_wp2_with fail
  refine wp_region_still_tail 16 (by kernel_rfl) (by kernel_rfl) ?_
  simp only [List.take_succ_cons, List.take_zero, List.drop_succ_cons, List.drop_zero]
  repeat still_step
  refine wpStill_nil ?_
  have h1' := h1 w.drew (Ext.drew (Ext.refl _))
  have hbl := (Array.getElem?_eq_some_iff.1 HBW.out).1
  clear h1 c0 c1 c2 z0 z1 z2 e0 e1
  go_wp2_with fail
  refine h1'.mono ?_
  rintro e w1 ⟨vm, rfl, hown, hB⟩
  obtain ⟨Am, cm, rfl, _⟩ := hown.shape
  have hBw : Below w.heap.size w w1 := ⟨hB.os, hB.tape, hB.output, hB.size, hB.block⟩
  have HM1 := As.mk ((Mut.refl base b w).ext hBw)
  have HBK1 := As.mk ((hBw.block b hbl).trans HBW.out)
  have HOM : As (OwnL 4 (EIt w1 (Fresh base [72, 55])) 72 w1 w.heap.size (.slice Am m.length cm) m) := ⟨hown⟩
  have HU1 : As (OwnL 1 (EBt w1 (Fresh base [72, 55])) 70 w1 base (.slice (some ⟨b0, o, none⟩) pre.length c) pre) := ⟨(HU.out.below hBw).imp fun _ _ h => h.mv (Stays.below hBw _)⟩
  have hs1 : w.heap.size ≤ w1.heap.size := hBw.size
  have HCS1 := As.mk (HCS.out.ext hBw)
  clear hown hB hBw h1' HU HCS HBW
  obtain ⟨c0, c1, c2, z0, z1, z2⟩ := spine_cells HBK1.out
  have HB2 := As.mk (set3_heap (b' := .slice (some ⟨b0, o, none⟩) pre.length c) HBK1.out)
  have HM2 := As.mk (HM1.out.set 1 (.slice (some ⟨b0, o, none⟩) pre.length c))
  have HS2 := (Mut.refl base b w1).set 1 (.slice (some ⟨b0, o, none⟩) pre.length c)
  have HCS2 := As.mk (HCS1.out.mv (HS2.stays HBK1.out fresh_cols))
  have HU2 := As.mk ((HU1.out.set (p := ⟨b, 1, none⟩) HBK1.out (by decide) (.slice (some ⟨b0, o, none⟩) pre.length c)).imp fun x cs h => EBt.mv h (HS2.stays HBK1.out fresh_own))
  have HOM2 : As (RdT (w1.setCell ⟨b, 1, none⟩ (.slice (some ⟨b0, o, none⟩) pre.length c)) (Fresh base [72, 55]) (.slice Am m.length cm) m) := ⟨RdT.mv (HOM.out.rd (ok := Fresh base [72, 55]) fun k hk => ⟨by omega, by simp⟩) (HS2.stays HBK1.out fresh_own)⟩
  have hbs2 : base ≤ (w1.setCell ⟨b, 1, none⟩ (.slice (some ⟨b0, o, none⟩) pre.length c)).heap.size := by simp; omega
  by_cases hm0 : m = []
  · subst hm0
    rw [if_pos rfl] at HJ
    obtain rfl := HJ.out
    go_wp2
    go_end0
    exact ⟨rfl, ⟨_, _, HB2.out, HCS2.out, HU2.out⟩, HM2.out⟩
  · have hml : 0 < m.length := List.length_pos_iff.2 hm0
    have hmlz : 0 < (m.length : Int) := by omega
    rw [if_neg hm0] at HJ
    obtain rfl := HJ.out
    generalize hW2 : w1.setCell ⟨b, 1, none⟩ (.slice (some ⟨b0, o, none⟩) pre.length c) = w2 at *
    clear hm0
    obtain ⟨d0, d1, d2, y0, y1, y2⟩ := spine_cells HB2.out
    have hbl2 := (Array.getElem?_eq_some_iff.1 HB2.out).1
    go_wp2_with (at_builtin; go_loud (refine OwnL.append (W := w2) (w0 := w2) base rfl (.tmp 43) (.tmp 45) 67 70 _ 1 24 rfl Tryz.underlying67 info_items rfl (by decide) (by decide) _ pre m [.slice Am m.length cm] rfl rfl ⟨_, rfl, HOM2.out⟩ rfl (by simp [Value.oneCell']) HU2.out (Below.refl _ _) hbs2 (by omega) rfl ?_; intro v3 w3 hown3 hb3 hg3 _; obtain ⟨A3, c3, rfl, hB3, hS3, hM3⟩ := sp_push HB2.out HCS2.out HU2.out hown3 hg3; have HS3 := As.mk hS3; have HM3 := As.mk hM3; obtain ⟨f0, f1, f2, x0, x1, x2⟩ := spine_cells hB3; clear hown3 hb3 hg3 hS3 hM3 hB3))
    go_end0
    exact ⟨rfl, HS3.out, HM2.out.trans HM3.out⟩
end Go.Proofs.YtmpndmjfdijamaaGreatDoor
