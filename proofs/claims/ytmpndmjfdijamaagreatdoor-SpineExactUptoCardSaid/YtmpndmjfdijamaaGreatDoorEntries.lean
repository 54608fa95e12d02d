/- The walk of spine.entries: items as a multiset. -/
import Derived.Test.YtmpndmjfdijamaaGreatDoorSortE
import Derived.Deep.RegionLaw
set_option linter.unusedVariables false
set_option linter.unusedSimpArgs false
namespace Go.Proofs.YtmpndmjfdijamaaGreatDoor
open Go.RowKit Go.Sort
def GI.ent (x : GI) : GE := ⟨x.row, x.size⟩
theorem info_entry : (Tryz.prog.info? 47).map (fun i => (i.zero, i.size, i.bytes)) = some (some (.agg #[.slice none 0 0, .int .i64 0]), 2, 32) := by kernel_rfl
theorem OwnL.notnil {α : Type} {sz : Nat} {E : α → List Value → Prop} {e : TypeId} {w : World} {base : Nat} {v : Value} {xs : List α} (h : OwnL sz E e w base v xs) : True := trivial
theorem EE.mv {w w' : World} {ok ok' : Blk} {x : GE} {cs : List Value} (h : EE w ok x cs) (hs : Stays w w' ok ok') : EE w' ok' x cs := let ⟨v, hc, hi, hr⟩ := h; ⟨v, hc, hi, hr.mv hs⟩
theorem OwnL.rowStays {α : Type} {sz : Nat} {E : α → List Value → Prop} {e : TypeId} {w w' : World} {base : Nat} {v : Value} {xs : List α} (h : OwnL sz E e w base v xs) (hg : w.grownBy w' v.ownBlock) {ok : Blk} (hok : ∀ k, ¬ ok k e) : Stays w w' ok ok :=
  Stays.grown hg ok fun g t cells fr hgb hh ho => by
    obtain ⟨c, hc⟩ := h.typed g hgb
    exact hok g (tag_eq hh hc ▸ ho)
/-- A multiset whose list and rows are new blocks from base on. -/
abbrev RdZ2 (w : World) (base : Nat) (v : Value) (z : List GE) : Prop := RdL 2 (EE w (Fresh base [55])) w (Fresh base [47]) v z
theorem RdZ2.any {w : World} {base : Nat} {v : Value} {z : List GE} (h : RdZ2 w base v z) : RdZ w AnyB v z := RdL.move h (fun _ _ e => e.mv (Stays.any _ _)) (Stays.any _ _)
theorem RdZ2.both {w : World} {base : Nat} {v : Value} {z : List GE} (h : RdZ2 w base v z) : RdZ w (Fresh base [47, 55]) v z :=
  RdL.move h (fun _ _ e => e.mv (Stays.mono fun k t h => ⟨h.1, by have := h.2; simp at this; simp [this]⟩)) (Stays.mono fun k t h => ⟨h.1, by have := h.2; simp at this; simp [this]⟩)
theorem RdZ2.low {w : World} {base base' : Nat} {v : Value} {z : List GE} (h : RdZ2 w base v z) (hb : base' ≤ base) : RdZ2 w base' v z :=
  RdL.move h (fun _ _ e => e.mv (Stays.mono fun k t h => ⟨Nat.le_trans hb h.1, h.2⟩)) (Stays.mono fun k t h => ⟨Nat.le_trans hb h.1, h.2⟩)
theorem RdZ2.ext {w w' : World} {base : Nat} {v : Value} {z : List GE} (h : RdZ2 w base v z) (hb : Below w.heap.size w w') : RdZ2 w' base v z :=
  RdL.move h (fun _ _ e => e.mv (Stays.below hb _)) (Stays.below hb _)
set_option maxHeartbeats 4000000 in
set_option maxRecDepth 100000 in
theorem entries_any (v : Value) (z : List GI) (w : World) (hz : RdT w AnyB v z) (hs : ∀ x ∈ z, rsound x.row = true) :
    Calls Tryz.prog 49 #[v] w fun e w' => ∃ v', e = .returned v' ∧ Below w.heap.size w w' ∧
      ∃ xs, xs.Perm (z.map GI.ent) ∧ (xs.Pairwise fun x y => ¬ rlex y.row x.row < 0) ∧ RdZ2 w' w.heap.size v' xs := by
  have mixed := mixed
  obtain ⟨A, c, rfl, hc⟩ := hz.shape
  have hl := hz.len
  have HZ := As.mk hz
  have HS := As.mk hs
  clear hz hs
  go_enter Tryz.func49, Tryz.ntmps49
  go_wp2_with fail
  go_loopg [3, 8] z.length (fun g s3 s8 wr => ∃ (k : Nat), k ≤ z.length ∧ z.length - k ≤ g ∧ s8 = .int .i64 k ∧ As (OwnL 2 (EE wr (Fresh w.heap.size [55])) 47 wr w.heap.size s3 ((z.take k).map GI.ent)) ∧ As (Below w.heap.size w wr) ∧ As (k = 0 → s3 = .slice none 0 0))
  case atStart => exact ⟨0, by omega, by omega, by go_num, ⟨by simpa using OwnL.nil _ _ _ _ _⟩, ⟨Below.refl _ _⟩, ⟨fun _ => rfl⟩⟩
  case round =>
    obtain ⟨k, hk, hg, rfl, HO, HB, HN⟩ := hrel
    by_cases hlt : k < z.length
    · have hltz : (k : Int) < (z.length : Int) := by omega
      obtain ⟨x, hx⟩ : ∃ x, z[k]? = some x := ⟨_, List.getElem?_eq_getElem hlt⟩
      obtain ⟨b, o, c', A1, d1, hv, hb, hxs, hrw, _, e0, e1, e2, e3⟩ := RdT.itm (HZ.out.ext HB.out) hx
      injection hv with hA _ hcc
      subst hA
      have HX := As.mk hx
      have HRW := As.mk hrw
      clear hx hrw hcc
      have hstep : (z.take (k + 1)).map GI.ent = (z.take k).map GI.ent ++ [x.ent] := by rw [List.take_add_one, HX.out]; simp
      have HST := As.mk hstep
      clear hstep
      have hzl : ((z.take k).map GI.ent).length = k := by rw [List.length_map, List.length_take]; omega
      have HZL := As.mk hzl
      generalize (z.take k).map GI.ent = zs at *
      have HW0 : As (Below w.heap.size w (wr.alloc (.cells #[.string x.key, .string x.enc, .slice A1 x.row.length d1, .int .i64 x.size] 72)).drew) := ⟨(HB.out.alloc HB.out.size _).drew⟩
      have HO0 : As (OwnL 2 (EE (wr.alloc (.cells #[.string x.key, .string x.enc, .slice A1 x.row.length d1, .int .i64 x.size] 72)).drew (Fresh w.heap.size [55])) 47 (wr.alloc (.cells #[.string x.key, .string x.enc, .slice A1 x.row.length d1, .int .i64 x.size] 72)).drew w.heap.size u3 zs) :=
        ⟨((HO.out.ext (Ext.drew (Ext.alloc (Ext.refl _) _))).imp fun _ _ h => EE.mv h (Stays.below (Ext.drew (Ext.alloc (Ext.refl _) _)).below _))⟩
      have HCL := As.mk (cloneRow_any (.slice A1 x.row.length d1) x.row (wr.alloc (.cells #[.string x.key, .string x.enc, .slice A1 x.row.length d1, .int .i64 x.size] 72)).drew (HRW.out.ext (Ext.drew (Ext.alloc (Ext.refl _) _)).below))
      have HC0 : As ((wr.alloc (.cells #[.string x.key, .string x.enc, .slice A1 x.row.length d1, .int .i64 x.size] 72)).heap[wr.heap.size]? = some (.cells #[.string x.key, .string x.enc, .slice A1 x.row.length d1, .int .i64 x.size] 72 (0, 0))) := ⟨heap_alloc_new _ _⟩
      have HXI := As.mk hxs
      obtain ⟨xk, xe, xr, xs⟩ := x
      simp only at *
      go_wp2_with fail
      clear e0 e1 e2 e3 hxs hb
      generalize hcb : wr.heap.size = cb at *
      generalize hW0 : wr.alloc (Obj.cells #[Value.string xk, Value.string xe, Value.slice A1 xr.length d1, Value.int IntKind.i64 xs] 72) = W0 at *
      obtain ⟨f0, f1, f2, f3, _⟩ := cells4 HC0.out
      have hcl0 : cb < W0.heap.size := (Array.getElem?_eq_some_iff.1 HC0.out).1
      have HLZ : As (zs.length < 4294967296) := ⟨by have := HZL.out; omega⟩
      clear hcb hW0
      go_region_law (first | (refine OwnL.append_step (W := w2) w.heap.size rfl (.tmp 12) (.tmp 19) 35 47 _ 2 32 rfl Tryz.underlying35 info_entry rfl (by decide) (by decide) u3 zs ⟨xr, xs⟩ [.slice A2 xr.length d2, .int .i64 xs] rfl rfl (E := EE w2 (Fresh w.heap.size [55])) ⟨_, rfl, HXI.out, HU2.out⟩ rfl (by simp [Value.oneCell']) HO2.out HB2.out hbz HLZ.out rfl ?_; intro v1 w3 hown hb' hg'; have HO3 := As.mk (hown.imp fun _ _ h => EE.mv h (HO2.out.rowStays hg' (ok := Fresh w.heap.size [55]) (fun k h => by have := h.2; simp at this))); have HB3 := As.mk hb'; clear hown hb' hg') | (go_simp; go_at_call 55; refine HCL.out.mono ?_; rintro e w2 ⟨u2, rfl, hu2, hB⟩; obtain ⟨A2, d2, rfl, _⟩ := hu2.shape; have hC2 := (hB.block cb hcl0).trans HC0.out; obtain ⟨p0, p1, p2, p3, _⟩ := cells4 hC2; have HU2 := As.mk (hu2.mv (Stays.mono (ok' := Fresh w.heap.size [55]) fun k t h => ⟨Nat.le_trans HW0.out.size h.1, h.2⟩)); have HO2 := As.mk ((HO0.out.below hB).imp fun _ _ h => EE.mv h (Stays.below hB _)); have HB2 := As.mk (HW0.out.trans (hB.mono HW0.out.size)); have hbz := HB2.out.size; clear hu2 hB hC2))
      all_goals (go_wp2; go_roundg (z.length - (k + 1)); (case measure => omega); (case rel => exact ⟨k + 1, by omega, by omega, by go_num, ⟨by rw [HST.out]; exact HO3.out⟩, HB3, ⟨fun h => by omega⟩⟩))
    · have hltz : ¬ (k : Int) < (z.length : Int) := by omega
      obtain rfl : k = z.length := by omega
      rw [List.take_length] at HO
      have hsn : ∀ x ∈ z.map GI.ent, rsound x.row = true := fun x hx => by
        obtain ⟨y, hy, rfl⟩ := List.mem_map.1 hx
        exact HS.out y hy
      have HC := As.mk (sortEntries_any w.heap.size u3 (z.map GI.ent) (Fresh w.heap.size [55]) wr HO.out hsn (fun h => HN.out (by have := congrArg List.length h; simpa using this)) (fun k h => by have := h.2; simp at this))
      clear hsn
      go_wp2_with (go_at_call 76; refine HC.out.mono ?_; rintro e w2 ⟨rfl, hg2, xs, hp, hso, hrd⟩; have HG := As.mk hg2; have HP := As.mk hp; have HSO := As.mk hso; have HRD := As.mk hrd; clear hg2 hp hso hrd)
      go_ret
      refine ⟨_, rfl, HB.out.grown HG.out HB.out.size (fun k hk => (HO.out.lt k hk).1), xs, HP.out, HSO.out, ?_⟩
      have h1 := HRD.out (Fresh w.heap.size [47]) (fun k hk => ⟨hk, by simp⟩)
      refine RdL.move h1 (fun x cs h => EE.mv h ?_) (Stays.mono fun _ _ h => h)
      exact (HO.out.rowStays HG.out (ok := Fresh w.heap.size [55]) (fun k h => by have := h.2; simp at this))
end Go.Proofs.YtmpndmjfdijamaaGreatDoor
