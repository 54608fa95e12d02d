/- The reference's Neg and Sub. The reference's join of two bags: key, joined, made. -/
import Derived.Test.YtflckpfpgpfjlaaGreatDoorMRefV
import Derived.Test.YtflckpfpgpfjlaaGreatDoorMZadd
import Derived.Test.YtflckpfpgpfjlaaGreatDoorMKl
import Derived.Test.YtflckpfpgpfjlaaGreatDoorMJt
import Derived.Test.YtflckpfpgpfjlaaGreatDoorMKq
set_option linter.unusedVariables false
set_option linter.unusedSimpArgs false
section
namespace Go.Proofs.YtflckpfpgpfjlaaGreatDoor
open Go.RowKit Go.Sort
set_option maxHeartbeats 4000000 in
set_option maxRecDepth 100000 in
theorem r3Neg_any (u : Value) (a : List GE) (w : World) (ha : RdZ w AnyB u a) : Calls Tryz.prog 110 #[u] w (NegPost a w) := by
  have mixed := mixed
  have h1 := r3Sound_any u a w ha
  obtain ⟨A, c, rfl, _⟩ := ha.shape
  have hal := ha.len
  have HA := As.mk ha
  clear ha
  cases hsa : zsound a with
  | false =>
    rw [hsa] at h1
    have HS := As.mk hsa
    clear hsa
    go_enter Tryz.func110, Tryz.ntmps110
    go_wp2_with (go_at_call 45; refine h1.mono ?_; rintro e w1 ⟨rfl, hE⟩)
    go_ret2
    exact NegPost.bad hE.below HS.out
  | true =>
    rw [hsa] at h1
    have HS := As.mk hsa
    clear hsa
    go_enter Tryz.func110, Tryz.ntmps110
    go_wp2_with fail
    refine h1.mono ?_
    rintro e w1 ⟨rfl, hE1⟩
    have HB1 := As.mk hE1.below
    have hsz1 := HB1.out.size
    clear h1 hE1
    have HPT := As.mk (zsound_parts HS.out).1
    go_wp2_with fail
    go_loopg [4, 5] a.length (fun g s4 s5 wr => ∃ (k : Nat), k ≤ a.length ∧ a.length - k ≤ g ∧ s5 = .int .i64 k ∧ As (OwnL 2 (EE wr (Fresh w.heap.size [96])) 66 wr w.heap.size s4 ((a.take k).map GE.neg)) ∧ As (Below w.heap.size w wr))
    case atStart => exact ⟨0, by omega, by omega, by go_num, ⟨OwnL.made 2 _ 66 w1 w.heap.size #[] 0 hsz1 (by decide) rfl⟩, ⟨HB1.out.alloc hsz1 _⟩⟩
    case round =>
      obtain ⟨k, hk, hg, rfl, HO, HB⟩ := hrel
      by_cases hlt : k < a.length
      · have hltz : (k : Int) < (a.length : Int) := by omega
        obtain ⟨x, hx⟩ : ∃ x, a[k]? = some x := ⟨_, List.getElem?_eq_getElem hlt⟩
        obtain ⟨b, o, c', A1, d1, hv, hb, hxs, hrw, e0, e1⟩ := RdZ.ent (HA.out.ext HB.out) hx
        injection hv with hA _ hcc
        subst hA
        have hfx := (HPT.out x (List.mem_of_getElem? hx)).2.1
        have HXI : As (i64 (-x.w)) := ⟨by unfold fair at hfx; simp only [Bool.and_eq_true, decide_eq_true_eq] at hfx; unfold i64; omega⟩
        have hng : IntKind.i64.wrap (-x.w) = -x.w := by have := HXI.out; unfold i64 at this; rw [IntKind.wrap_i64]; omega
        have HRW := As.mk hrw
        have HST : As ((a.take (k + 1)).map GE.neg = (a.take k).map GE.neg ++ [x.neg]) := ⟨by rw [List.take_add_one, hx]; simp⟩
        have hzl : ((a.take k).map GE.neg).length = k := by rw [List.length_map, List.length_take]; omega
        have HLZ : As (((a.take k).map GE.neg).length < 4294967296) := ⟨by omega⟩
        clear hx hrw hcc hfx hzl
        generalize (a.take k).map GE.neg = zs at *
        have HW0 : As (Below w.heap.size w wr.drew) := ⟨HB.out.drew⟩
        have HO0 : As (OwnL 2 (EE wr.drew (Fresh w.heap.size [96])) 66 wr.drew w.heap.size u4 zs) :=
          ⟨((HO.out.ext (Ext.drew (Ext.refl _))).imp fun _ _ h => EE.mv h (Stays.below (Ext.drew (Ext.refl _)).below _))⟩
        have HCL := As.mk (r3copied_any (.slice A1 x.row.length d1) x.row wr.drew (HRW.out.ext (Ext.drew (Ext.refl _)).below))
        have HC0 : As (wr.drew.cell? ⟨b, o + k * 2 + 1, none⟩ = some (.int .i64 x.w)) := ⟨(Ext.drew (Ext.refl _)).cell e1⟩
        obtain ⟨xr, xw⟩ := x
        simp only [GE.neg] at *
        go_wp2_with fail
        clear hxs hb
        go_region_law (first | (refine OwnL.append_step (W := w2) w.heap.size rfl (.tmp 16) (.tmp 30) 35 66 _ 2 32 rfl Tryz.underlying35 info_entry rfl (by decide) (by decide) u4 zs ⟨xr, -xw⟩ [.slice A2 xr.length d2, .int .i64 (-xw)] rfl rfl (E := EE w2 (Fresh w.heap.size [96])) ⟨_, rfl, HXI.out, HU2.out⟩ rfl (by simp [Value.oneCell']) HO2.out HB2.out hbz HLZ.out rfl ?_; intro v1 w3 hown hb' hg'; have HO3 := As.mk (hown.imp fun _ _ h => EE.mv h (HO2.out.rowStays hg' (ok := Fresh w.heap.size [96]) (fun k h => by have := h.2; simp at this))); have HB3 := As.mk hb'; clear hown hb' hg') | (go_simp; go_at_call 153; refine HCL.out.mono ?_; rintro e w2 ⟨u2, rfl, hu2, hB⟩; obtain ⟨A2, d2, rfl, _⟩ := hu2.shape; have p1 := (bc hB HC0.out); have HU2 := As.mk (hu2.mv (Stays.mono (ok' := Fresh w.heap.size [96]) fun k t h => ⟨Nat.le_trans HW0.out.size h.1, h.2⟩)); have HO2 := As.mk ((HO0.out.below hB).imp fun _ _ h => EE.mv h (Stays.below hB _)); have HB2 := As.mk (HW0.out.trans (hB.mono HW0.out.size)); have hbz := HB2.out.size; clear hu2 hB))
        all_goals (go_wp2; go_roundg (a.length - (k + 1)); (case measure => omega); (case rel => exact ⟨k + 1, by omega, by omega, by go_num, ⟨by rw [HST.out]; exact HO3.out⟩, HB3⟩))
      · have hltz : ¬ (k : Int) < (a.length : Int) := by omega
        obtain rfl : k = a.length := by omega
        rw [List.take_length] at HO
        have HZ2 : As (RdZ2 wr w.heap.size u4 (a.map GE.neg)) := ⟨HO.out.rd fun k hk => ⟨hk, by simp⟩⟩
        go_wp2_with fail
        go_ret2
        exact NegPost.good HB.out HS.out HZ2.out
theorem neg_ok' {d : List GE} (h : ZOk d) (hf : FairZ d) : ZOk (d.map GE.neg) ∧ FairZ (d.map GE.neg) := by
  refine ⟨⟨fun x hx => ?_, fun x hx => ?_, ?_⟩, fun x hx => ?_⟩
  · obtain ⟨y, hy, rfl⟩ := List.mem_map.1 hx
    exact h.row y hy
  · obtain ⟨y, hy, rfl⟩ := List.mem_map.1 hx
    have := h.w y hy
    show -y.w ≠ 0
    omega
  · exact List.pairwise_map.2 h.rise
  · obtain ⟨y, hy, rfl⟩ := List.mem_map.1 hx
    have := hf y hy
    show fair (-y.w) = true
    unfold fair at *
    simp only [Bool.and_eq_true, decide_eq_true_eq] at *
    omega
theorem zw_neg' (d : List GE) (r : List GV) : zw (d.map GE.neg) r = -zw d r := by
  induction d with
  | nil => rfl
  | cons x d ih =>
    rw [List.map_cons, zw_cons, zw_cons, ih]
    show (if sameR x.row r = true then -x.w else 0) + _ = _
    split <;> omega
theorem r3Sub_ok (u v : Value) (a b : List GE) (w : World) (ha : RdZ w AnyB u a) (hb : RdZ w AnyB v b) (hsa : zsound a = true) (ob : ZOk b) (fb : FairZ b) (hl : a.length + b.length ≤ 2147483648) (ho : overL (a ++ b.map GE.neg) = false) :
    Calls Tryz.prog 49 #[u, v] w fun e w' => ∃ (A : Option Addr) (c : Nat) (y : List GE), e = .returned (.tuple #[.slice A y.length c, .int .i64 0]) ∧ Made (a ++ b.map GE.neg) y ∧ RdZ2 w' w.heap.size (.slice A y.length c) y ∧ Below w.heap.size w w' := by
  have hsb := zok_sound ob fb
  have h1 := r3Neg_any v b w hb
  have HA := As.mk ha
  have HL : As (a.length + (b.map GE.neg).length ≤ 2147483648) := ⟨by rw [List.length_map]; exact hl⟩
  have HS := As.mk hsb
  have HSA := As.mk hsa
  have HSN := As.mk (zok_sound (neg_ok' ob fb).1 (neg_ok' ob fb).2)
  have HO := As.mk ho
  obtain ⟨A, c, rfl, _⟩ := ha.shape
  obtain ⟨B, d, rfl, _⟩ := hb.shape
  clear ha hb hsb hsa hl ho
  go_enter Tryz.func49, Tryz.ntmps49
  go_wp2_with fail
  refine h1.mono ?_
  rintro e w1 ⟨hB, hp⟩
  rw [if_neg (by rw [HS.out]; simp)] at hp
  obtain ⟨u1, rfl, hr⟩ := hp
  obtain ⟨A1, c1, rfl, _⟩ := hr.shape
  have HB := As.mk hB
  have HADD := As.mk ((r3Add_any _ _ a (b.map GE.neg) w1 (HA.out.ext hB) hr.any HL.out).mono fun e w' h => AddPost.ok h HSA.out HSN.out HO.out)
  clear hB hr h1
  obtain ⟨nb, hnb⟩ : ∃ nb, nb = b.map GE.neg := ⟨_, rfl⟩
  rw [← hnb] at HADD ⊢
  have HNB := As.mk hnb
  clear hnb
  go_wp2_with fail
  refine HADD.out.mono ?_
  rintro e w2 ⟨A2, c2, y, rfl, hm, hr, hB⟩
  have HM := As.mk hm
  have HR := As.mk hr
  have HB2 := As.mk hB
  clear hm hr hB
  go_wp2_with fail
  go_ret2
  exact ⟨_, _, y, rfl, by rw [← HNB.out]; exact HM.out, HR.out.low HB.out.size, HB.out.trans (HB2.out.mono HB.out.size)⟩
end Go.Proofs.YtflckpfpgpfjlaaGreatDoor
end
section
namespace Go.Proofs.YtflckpfpgpfjlaaGreatDoor
open Go.RowKit Go.Sort
set_option maxHeartbeats 2000000 in
set_option maxRecDepth 100000 in
theorem r7key_any (v u : Value) (r key : List GV) (cols : List Int) (w : World) (hr : RdV w AnyB v r) (hc : RdI w AnyB u cols) (hk : pickL r cols = some key) :
    Calls Tryz.prog 156 #[v, u] w fun e w' => ∃ A c, e = .returned (.slice A key.length c) ∧ RdV w' (Fresh w.heap.size [96]) (.slice A key.length c) key ∧ Below w.heap.size w w' := by
  obtain ⟨A, c, rfl, _⟩ := hr.shape
  obtain ⟨B, d, rfl, _⟩ := hc.shape
  have hrl := hr.len
  have hcl := hc.len
  have HR := As.mk hr
  have HC := As.mk hc
  have HKY := As.mk hk
  clear hr hc hk
  go_enter Tryz.func156, Tryz.ntmps156
  go_wp2
  go_loopg [5, 6] cols.length (fun g s6 s19 wr => ∃ (k : Nat) (xs : List GV), k ≤ cols.length ∧ cols.length - k ≤ g ∧ s19 = .int .i64 k ∧ xs.length = k ∧ As (OwnL 4 EV 96 wr w.heap.size s6 xs) ∧ As (Below w.heap.size w wr) ∧ As ((pickL r (cols.drop k)).map (xs ++ ·) = pickL r cols))
  case atStart => exact ⟨0, [], Nat.zero_le _, by omega, by go_num, rfl, ⟨OwnL.made 4 EV 96 w w.heap.size #[] 0 (Nat.le_refl _) (by decide) rfl⟩, ⟨(Below.refl _ _).alloc (Nat.le_refl _) _⟩, ⟨by simp⟩⟩
  case round =>
    obtain ⟨k, xs, hk, hg, rfl, hxs, HO, HB, HA⟩ := hrel
    have HXS := As.mk hxs
    clear hxs
    by_cases hlt : k < cols.length
    · have hltz : (k : Int) < (cols.length : Int) := by omega
      obtain ⟨i, hi⟩ : ∃ i, cols[k]? = some i := ⟨_, List.getElem?_eq_getElem hlt⟩
      obtain ⟨b, o, c', hv, hb, hiw, c0⟩ := RdI.val HC.out hi
      injection hv with hA _ hcc
      subst hA
      replace c0 := (HB.out.cell (World.block_lt_of_cell? w _ c0)).trans c0
      have HI := As.mk hi
      obtain ⟨hi1, hi2⟩ := hiw
      have hin : ¬ (i < 0 ∨ (r.length : Int) ≤ i) := fun hbad => by
        have h1 := HA.out
        rw [pickL_stop r cols k i HI.out hbad, HKY.out] at h1
        cases h1
      clear hi hcc
      have hi0 : 0 ≤ i := by omega
      have hi3 : i < (r.length : Int) := by omega
      obtain ⟨x, hx⟩ : ∃ x, r[i.toNat]? = some x := ⟨_, List.getElem?_eq_getElem (by omega)⟩
      obtain ⟨b2, o2, c2', hv2, hb2, hok2, d0, d1, d2, d3⟩ := RdV.val HR.out hx
      injection hv2 with hA2 _ hcc2
      subst hA2
      replace d0 := (HB.out.cell (World.block_lt_of_cell? w _ d0)).trans d0
      replace d1 := (HB.out.cell (World.block_lt_of_cell? w _ d1)).trans d1
      replace d2 := (HB.out.cell (World.block_lt_of_cell? w _ d2)).trans d2
      replace d3 := (HB.out.cell (World.block_lt_of_cell? w _ d3)).trans d3
      have HX := As.mk (pickL_step r cols k i x HI.out (by omega) hx xs)
      have HK := As.mk hok2
      have HXL : As (xs.length < 4294967296) := ⟨by rw [HXS.out]; omega⟩
      clear hx hcc2 hok2 hin
      go_wp2_with (at_builtin; go_loud (refine OwnL.append w.heap.size rfl (.tmp 14) (.tmp 22) 64 96 _ 4 40 rfl Tryz.underlying64 info_val rfl (by decide) (by decide) _ xs x x.cells rfl rfl (E := EV) ⟨rfl, HK.out⟩ rfl (GV.cells_one x) HO.out HB.out HB.out.size HXL.out rfl ?_); intro v1 w2 hown hb' hg' hat)
      have HO2 := As.mk hown
      have HB2 := As.mk hb'
      clear hown hb' hg' hat
      go_wp2
      go_roundg (cols.length - (k + 1))
      case measure => omega
      case rel => exact ⟨k + 1, xs ++ [x], by omega, by omega, by go_num, by rw [List.length_append, HXS.out]; rfl, HO2, HB2, ⟨by rw [← HA.out, HX.out]⟩⟩
    · have hltz : ¬ (k : Int) < (cols.length : Int) := by omega
      obtain rfl : xs = key := by
        have h1 := HA.out
        rw [List.drop_eq_nil_of_le (by omega), HKY.out] at h1
        simpa [pickL] using h1
      have HRD := As.mk (OwnL.rd HO.out (ok := Fresh w.heap.size [96]) (fun k hk => ⟨hk, by simp⟩))
      obtain ⟨A9, c9, rfl, _⟩ := HRD.out.shape
      go_wp2
      go_ret
      exact ⟨_, _, rfl, HRD.out, HB.out⟩
theorem r7joined_any (u v : Value) (p q : List GV) (w : World) (hp : RdV w AnyB u p) (hq : RdV w AnyB v q) (hl : p.length + q.length ≤ 4294967296) :
    Calls Tryz.prog 157 #[u, v] w fun e w' => ∃ A c, e = .returned (.slice A (p ++ q).length c) ∧ RdV w' (Fresh w.heap.size [96]) (.slice A (p ++ q).length c) (p ++ q) ∧ Below w.heap.size w w' := by
  obtain ⟨A, c, rfl, _⟩ := hp.shape
  obtain ⟨B, d, rfl, _⟩ := hq.shape
  have HE4 : As (Ext w (w.alloc (.cells #[] 96))) := ⟨Ext.alloc (Ext.refl _) _⟩
  have HP := As.mk (hp.ext HE4.out.below)
  have HQ := As.mk (hq.mv (Stays.old w AnyB))
  have HR0 := As.mk (OwnL.made 4 EV 96 w w.heap.size #[] 0 (Nat.le_refl _) (by decide) rfl)
  have HB0 : As (Below w.heap.size w (w.alloc (.cells #[] 96))) := ⟨HE4.out.below⟩
  have HL := As.mk hl
  have HL1 : As (([] : List GV).length + p.length ≤ 4294967296) := ⟨by simp; omega⟩
  clear hp hq hl
  go_enter Tryz.func157, Tryz.ntmps157
  go_wp2_with (at_builtin; first | (refine OwnL.appends (w0 := w) (W := w.alloc (.cells #[] 96)) w.heap.size rfl (.tmp 7) (.tmp 8) 64 96 _ 4 40 rfl Tryz.underlying64 info_val rfl (by decide) (by decide) _ [] p _ _ _ rfl rfl HP.out HR0.out HB0.out HB0.out.size HL1.out ?_; intro v1 w4 hown hb4 hg4 hat4; rw [List.nil_append] at hown; have HO4 := As.mk hown; have HB4 := As.mk hb4; clear hown hb4 hg4 hat4) | (refine OwnL.appends (w0 := w) (W := w4) w.heap.size rfl (.tmp 10) (.tmp 11) 64 96 _ 4 40 rfl Tryz.underlying64 info_val rfl (by decide) (by decide) _ p q _ _ _ rfl rfl (HQ.out.ext HB4.out) HO4.out HB4.out HB4.out.size HL.out ?_; intro v1' w5 hown hb5 hg5 hat5; have HO5 := As.mk hown; have HB5 := As.mk hb5; clear hown hb5 hg5 hat5))
  have HRD := As.mk (OwnL.rd HO5.out (ok := Fresh w.heap.size [96]) (fun k hk => ⟨hk, by simp⟩))
  obtain ⟨A9, c9, rfl, _⟩ := HRD.out.shape
  go_ret
  exact ⟨_, _, rfl, HRD.out, HB5.out⟩
theorem rdz2_poke2 {w : World} {b n : Nat} {x y v : Value} {z : List GE} (h : RdZ2 w n v z) (hb : b < n) : RdZ2 ((w.setCell ⟨b, 0, none⟩ x).setCell ⟨b, 1, none⟩ y) n v z := by
  have key : ∀ T : TypeId, Stays w ((w.setCell ⟨b, 0, none⟩ x).setCell ⟨b, 1, none⟩ y) (Fresh n [T]) (Fresh n [T]) := fun T k t cells fr ho hh => ⟨ho, by
    have hne : k ≠ b := by have := ho.1.1; omega
    rw [heap_setCell_other _ ⟨b, 1, none⟩ k y hne, heap_setCell_other _ ⟨b, 0, none⟩ k x hne]
    exact hh⟩
  exact RdL.move h (fun _ _ e => e.mv (key _)) (key _)
def heavyE (x : GE) : Bool := decide (1099511627776 < x.w)
def MadePost7 (l : List GE) (w : World) (e : Ending) (w' : World) : Prop := Below w.heap.size w w' ∧ ∃ z, Made l z ∧ ((z.any heavyE = true ∧ e = .returned (.agg #[.slice none 0 0, .int .i64 14])) ∨ (z.any heavyE = false ∧ ∃ A c, e = .returned (.agg #[.slice A z.length c, .int .i64 0]) ∧ RdZ2 w' w.heap.size (.slice A z.length c) z ∧ z.length ≤ l.length))
set_option maxHeartbeats 4000000 in
set_option maxRecDepth 100000 in
theorem r7made_any (v : Value) (l : List GE) (w : World) (hl : RdZ w AnyB v l) (hlen : l.length ≤ 2147483648) (hb : l.any badE = false) (ho : overL l = false) : Calls Tryz.prog 100 #[v] w (MadePost7 l w) := by
  have mixed := mixed
  obtain ⟨W0, hW0⟩ : ∃ W0, W0 = w.alloc (.cells #[.slice none 0 0, .int .i64 0] 103) := ⟨_, rfl⟩
  have hE0 : Ext w W0 := hW0 ▸ Ext.alloc (Ext.refl w) _
  have hs0 : W0.heap.size = w.heap.size + 1 := by rw [hW0]; simp
  have hr0 : W0.heap[w.heap.size]? = some (.cells #[.slice none 0 0, .int .i64 0] 103 (0, 0)) := by rw [hW0]; exact heap_alloc_new w _
  have h1 := r3Make_any v l W0 (hl.ext hE0.below) hlen
  have HE0 := As.mk hE0.below
  have HBO : As ((l.any badE || overL l) = false) := ⟨by rw [hb, ho]; rfl⟩
  obtain ⟨A, c, rfl, _⟩ := hl.shape
  clear hl hb ho hE0
  go_enter Tryz.func100, Tryz.ntmps100
  go_wp2_with fail
  rw [← hW0]
  refine h1.mono ?_
  intro e w1 hm
  obtain ⟨A7, n7, c7, k7, rfl, hB7, hc7⟩ := hm.cases
  have hc := hc7.resolve_left (fun e => by have h := e.2; rw [HBO.out] at h; cases h)
  obtain ⟨rfl, _, z, hmd, hrr⟩ := hc
  obtain ⟨A8, c8, hv8, _⟩ := hrr.shape
  injection hv8 with hA8 hn8 hc8
  subst hA8 hn8 hc8
  have HB := As.mk (HE0.out.trans (hB7.mono HE0.out.size))
  have HRS := As.mk ((hB7.block _ (by omega)).trans hr0)
  have HMD := As.mk hmd
  have HRR := As.mk hrr
  have HLT : As (w.heap.size < W0.heap.size) := ⟨by omega⟩
  have hzl := hrr.any.len
  obtain ⟨r0, r1, _⟩ := cells2 HRS.out
  have hz0 := Lib.frozen_of_heap HRS.out 0
  have hz1 := Lib.frozen_of_heap HRS.out 1
  clear h1 hB7 hc7 hmd hrr hr0 hs0 hW0
  go_wp2_with fail
  go_loopg [5] z.length (fun g s5 wr => ∃ k : Nat, k ≤ z.length ∧ z.length - k ≤ g ∧ s5 = .int .i64 k ∧ w1 = wr ∧ As (∀ x ∈ z.take k, heavyE x = false))
  case atStart => exact ⟨0, by omega, by omega, by go_num, rfl, ⟨fun x hx => by cases hx⟩⟩
  case round =>
    obtain ⟨k, hk, hg, rfl, rfl, HA⟩ := hrel
    by_cases hlt : k < z.length
    · have hltz : (k : Int) < (z.length : Int) := by omega
      obtain ⟨x, hx⟩ : ∃ x, z[k]? = some x := ⟨_, List.getElem?_eq_getElem hlt⟩
      obtain ⟨b, o, c', A1, d1, hv, hb, hxs, hrw, e0, e1⟩ := RdZ.ent HRR.out.any hx
      injection hv with hA _ hcc
      subst hA
      have HX := As.mk hx
      clear hx hcc hrw
      by_cases hh : 1099511627776 < x.w
      · have hhb : decide (1099511627776 < x.w) = true := decide_eq_true hh
        go_wp2_with fail
        ((try simp only [Exit.inBlock, Exit.then]); refine bodyPost_ret (results_cell_row rfl _ _ w.heap.size 103 _ (0, 0) _ rfl (set2_heap HRS.out) Tryz.underlying103 rfl (by kernel_rfl)) rfl ?_)
        exact ⟨below_set (below_set HB.out (Nat.le_refl _)) (Nat.le_refl _), z, HMD.out, .inl ⟨List.any_eq_true.2 ⟨x, List.mem_of_getElem? HX.out, hhb⟩, rfl⟩⟩
      · have hhb : decide (1099511627776 < x.w) = false := decide_eq_false hh
        go_wp2_with fail
        go_roundg (z.length - (k + 1))
        case measure => omega
        case rel => exact ⟨k + 1, by omega, by omega, by go_num, rfl, ⟨fun y hy => by
          rw [take_snoc HX.out] at hy
          rcases List.mem_append.1 hy with hy | hy
          · exact HA.out y hy
          · rw [List.mem_singleton.1 hy]; exact hhb⟩⟩
    · have hltz : ¬ (k : Int) < (z.length : Int) := by omega
      obtain rfl : k = z.length := by omega
      go_wp2_with fail
      ((try simp only [Exit.inBlock, Exit.then]); refine bodyPost_ret (results_cell_row rfl _ _ w.heap.size 103 _ (0, 0) _ rfl (set2_heap HRS.out) Tryz.underlying103 rfl (by kernel_rfl)) rfl ?_)
      exact ⟨below_set (below_set HB.out (Nat.le_refl _)) (Nat.le_refl _), z, HMD.out, .inr ⟨by
        have h := HA.out
        rw [List.take_length] at h
        rw [List.any_eq_false]
        intro x hx
        rw [h x hx]; simp, _, _, rfl, (rdz2_poke2 HRR.out HLT.out).low (Nat.le_of_lt HLT.out), HMD.out.length⟩⟩
end Go.Proofs.YtflckpfpgpfjlaaGreatDoor
end
