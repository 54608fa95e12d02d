/- The walk of a spine's Put. -/
import Derived.Test.YtflckpfpgpfjlaaGreatDoorMGet
set_option linter.unusedVariables false
set_option linter.unusedSimpArgs false
namespace Go.Proofs.YtflckpfpgpfjlaaGreatDoor
open Go.RowKit Go.Sort
/-- An entry as an item. -/
def itemG (cols : List Int) (x : GE) : Option GI := match pick x.row cols with
  | none => none
  | some key => some ⟨encB key, encB x.row, x.row, x.w⟩
def itemsL (cols : List Int) : List GE → Option (List GI)
  | [] => some []
  | x :: z => match itemG cols x with
    | none => none
    | some y => (itemsL cols z).map (y :: ·)
theorem itemsL_step (cols : List Int) (z : List GE) (k : Nat) (x : GE) (y : GI) (hx : z[k]? = some x) (hy : itemG cols x = some y) (ys : List GI) :
    (itemsL cols (z.drop k)).map (ys ++ ·) = (itemsL cols (z.drop (k + 1))).map ((ys ++ [y]) ++ ·) := by
  obtain ⟨h1, rfl⟩ := List.getElem?_eq_some_iff.1 hx
  rw [List.drop_eq_getElem_cons h1, itemsL, hy]
  cases itemsL cols (z.drop (k + 1)) <;> simp
theorem itemsL_stop (cols : List Int) (z : List GE) (k : Nat) (x : GE) (hx : z[k]? = some x) (hy : itemG cols x = none) : itemsL cols (z.drop k) = none := by
  obtain ⟨h1, rfl⟩ := List.getElem?_eq_some_iff.1 hx
  rw [List.drop_eq_getElem_cons h1, itemsL, hy]
/-- Is a weight's change too great? -/
def overW (old s : Int) : Bool := (decide (0 < old) && decide (4611686018427387904 - old < s)) || (decide (old < 0) && decide (s < -4611686018427387904 - old))
def stepN (live old s : Int) : Int := if old = 0 then live + 1 else if wrap64 (old + s) = 0 then live - 1 else live
def liveL (bs : List (List GI)) : Int → List GI → Option Int
  | l, [] => some l
  | l, x :: xs => if overW (weightL bs x.key x.enc) x.size = true then none else liveL bs (stepN l (weightL bs x.key x.enc) x.size) xs
/-- What Put does. -/
def PutPost (base : Nat → Prop) (b : Nat) (S : GS) (z : List GE) (w : World) (e : Ending) (w' : World) : Prop :=
  Mut base b w w' ∧
  if zsound z = false then e = .returned (.int .i64 1) ∧ SpAt base b w' S
  else match itemsL S.cols z with
  | none => e = .returned (.int .i64 1) ∧ SpAt base b w' S
  | some xs => match liveL S.bs S.live xs with
    | none => e = .returned (.int .i64 11) ∧ SpAt base b w' S
    | some live => e = .returned (.int .i64 0) ∧ ∃ bs1 bs2, (if xs = [] then bs1 = S.bs else ∃ ys, ys.Perm xs ∧ (ys.Pairwise fun x y => ¬ y.cmp x < 0) ∧ bs1 = S.bs ++ [ys]) ∧
        Joins bs1 bs2 ∧ (bs2.length ≤ 1 ∨ (heldL bs2 : Int) ≤ 2 * live + 16) ∧ SpAt base b w' ⟨S.cols, bs2, live⟩
theorem put_nil (v : Value) (w : World) : Calls Tryz.prog 36 #[.pointer none, v] w fun e w' => e = .returned (.int .i64 2) ∧ w = w' := by
  go_enter Tryz.func36, Tryz.ntmps36
  go_wp2
  go_ret
  exact ⟨rfl, rfl⟩
theorem SpAt.setLive {base : Nat → Prop} {b : Nat} {w : World} {cols : List Int} {bs : List (List GI)} {live : Int} (h : SpAt base b w ⟨cols, bs, live⟩) (l : Int) : SpAt base b (w.setCell ⟨b, 2, none⟩ (.int .i64 l)) ⟨cols, bs, l⟩ := by
  obtain ⟨u, bv, hb, hcs, hu, hP⟩ := h
  have hM := (Mut.refl base b w).set 2 (.int .i64 l)
  have h1 := heap_setCell_same w b 2 _ 136 (.int .i64 l) hb
  exact ⟨u, bv, by simpa using h1, hcs.mv (hM.stays hb fresh_cols), (hu.set (p := ⟨b, 2, none⟩) hb (by decide) _).imp fun _ _ h => EBt.mv h (hM.stays hb rowB_own), hP⟩
theorem cells2 {w : World} {k : Nat} {a b : Value} {T : TypeId} (h : w.heap[k]? = some (.cells #[a, b] T (0, 0))) : w.cell? ⟨k, 0, none⟩ = some a ∧ w.cell? ⟨k, 1, none⟩ = some b ∧ k < w.heap.size := by
  refine ⟨?_, ?_, (Array.getElem?_eq_some_iff.1 h).1⟩ <;> rw [Lib.cell_of_heap h] <;> rfl
set_option maxHeartbeats 8000000 in
set_option maxRecDepth 100000 in
theorem put_any (base : Nat → Prop) (b : Nat) (S : GS) (v : Value) (z : List GE) (w : World) (hw : GW w) (hz : RdZ w AnyB v z) (hbw : ∀ k, w.heap.size ≤ k → base k) (h : SpAt base b w S) (hR : ∀ z ∈ S.bs, Rise z) (hH : heldL S.bs + z.length ≤ 4294967296) (hL : 0 ≤ S.live ∧ S.live ≤ 549755813888) (hN : S.bs.length < 4294967296) :
    Calls Tryz.prog 36 #[.pointer (some ⟨b, 0, none⟩), v] w (PutPost base b S z w) := by
  have h1 := zSound_any v z w hz
  obtain ⟨A, c, rfl, hc⟩ := hz.shape
  have hzl := hz.len
  have HZ := As.mk hz
  have HSP := As.mk h
  have HR := As.mk hR
  have HW := As.mk hw
  have HH := As.mk hH
  have HN := As.mk hN
  obtain ⟨u, bv, hb, hcs0, hu0, hPP⟩ := h
  have HPP := As.mk hPP
  have HBW := As.mk hbw
  clear hPP hbw
  have hcs := hcs0.mv (Stays.any _ _)
  have HC := As.mk hcs
  have HCS0 := As.mk hcs0
  have HU0 := As.mk hu0
  have HBK := As.mk hb
  obtain ⟨c0, c1, c2, _⟩ := spine_cells hb
  obtain ⟨i0, hi, hzz⟩ := Option.map_eq_some_iff.1 info_item
  simp only [Prod.mk.injEq] at hzz
  obtain ⟨hz0, hz1, hz2⟩ := hzz
  have hmk := fun W => run_make (P := Tryz.prog) W 133 122 i0 _ Tryz.underlying133 hi hz0 .i64 .i64 0 (z.length : Int) (by omega) (by omega) (by rw [hz2]; omega) (by omega)
  rw [show ((z.length : Int)).toNat = z.length by omega] at hmk
  rw [hz1] at hmk
  have hsz := size_madeCells (Value.agg #[.string ⟨#[]⟩, .string ⟨#[]⟩, .slice none 0 0, .int .i64 0]).cells (z.length * 4)
  generalize madeCells (Value.agg #[.string ⟨#[]⟩, .string ⟨#[]⟩, .slice none 0 0, .int .i64 0]).cells (z.length * 4) = cur at hmk hsz
  have HSZ := As.mk hsz
  obtain ⟨cols, bs, live⟩ := S
  simp only at *
  have HP : As (∀ e w', PutPost base b ⟨cols, bs, live⟩ z w e w' = PutPost base b ⟨cols, bs, live⟩ z w e w') := ⟨fun _ _ => rfl⟩
  clear hz hR hw hH hN hb hcs hcs0 hu0 hi hz0 hz1 hz2 hsz
  cases hzs : zsound z with
  | false =>
    rw [hzs] at h1
    have HQ := As.mk hzs
    clear hzs
    go_enter Tryz.func36, Tryz.ntmps36
    go_wp2_with (go_at_call 37; refine h1.mono ?_; rintro e w1 ⟨rfl, hE⟩)
    go_ret
    exact ⟨(Mut.refl _ _ _).ext hE.below, by rw [if_pos HQ.out]; exact ⟨rfl, HSP.out.ext hE.below⟩⟩
  | true =>
    rw [hzs] at h1
    have HQ := As.mk hzs
    clear hzs
    go_enter Tryz.func36, Tryz.ntmps36
    go_wp2_with (go_at_call 37; refine h1.mono ?_; rintro e w1 ⟨rfl, hE⟩; have HE1 := As.mk hE.below; have hsz1 := hE.size; clear hE)
    go_loopg [5, 25] z.length (fun g s5 s25 wr => ∃ (k : Nat) (ys : List GI), k ≤ z.length ∧ z.length - k ≤ g ∧ s25 = .int .i64 k ∧ ys.length = k ∧ As (OwnL 4 (EIt wr (Fresh w.heap.size [96])) 122 wr w.heap.size s5 ys) ∧ As (Below w.heap.size w wr) ∧ As ((itemsL cols (z.drop k)).map (ys ++ ·) = itemsL cols z))
    case atStart => exact ⟨0, [], by omega, by omega, by go_num, rfl, ⟨OwnL.made 4 _ 122 w1 w.heap.size cur z.length hsz1 (by simp only [maxLen]; omega) HSZ.out⟩, ⟨HE1.out.alloc hsz1 _⟩, ⟨by simp⟩⟩
    case round =>
      obtain ⟨k, ys, hk, hg, rfl, hyl, HO, HB, HI⟩ := hrel
      by_cases hlt : k < z.length
      · have hltz : (k : Int) < (z.length : Int) := by omega
        obtain ⟨x, hx⟩ : ∃ x, z[k]? = some x := ⟨_, List.getElem?_eq_getElem hlt⟩
        obtain ⟨bb, o, cc, A1, d1, hv, hbb, hxw, hxr, e0, e1⟩ := (HZ.out.ext HB.out).ent hx
        injection hv with hA _ hccc
        subst hA
        have HX := As.mk hx
        have HXR := As.mk hxr
        have HXW := As.mk hxw
        have b0 := (HB.out.cell (World.block_lt_of_cell? w _ c0)).trans c0
        clear hx hxr hccc
        obtain ⟨xr, xw⟩ := x
        simp only at *
        have hB0 : Below wr.heap.size wr (wr.alloc (.cells #[.slice A1 xr.length d1, .int .i64 xw] 66)) := (Below.refl _ _).alloc (Nat.le_refl _) _
        have HB0 : As (Below w.heap.size w (wr.alloc (.cells #[.slice A1 xr.length d1, .int .i64 xw] 66))) := ⟨HB.out.alloc HB.out.size _⟩
        have HIT := As.mk (itemOf_any b u bv (.slice A1 xr.length d1) live cols xr (wr.alloc (.cells #[.slice A1 xr.length d1, .int .i64 xw] 66)) (HW.out.below HB0.out) ((HB0.out.block b (World.block_lt_of_cell? w _ c0)).trans HBK.out) (HC.out.ext HB0.out) (HXR.out.ext hB0))
        have HO0 : As (OwnL 4 (EIt (wr.alloc (.cells #[.slice A1 xr.length d1, .int .i64 xw] 66)) (Fresh w.heap.size [96])) 122 (wr.alloc (.cells #[.slice A1 xr.length d1, .int .i64 xw] 66)) w.heap.size u5 ys) := ⟨(HO.out.below hB0).imp fun _ _ h => EIt.mv h (Stays.below hB0 _)⟩
        have HE1' : As ((wr.alloc (.cells #[.slice A1 xr.length d1, .int .i64 xw] 66)).heap[wr.heap.size]? = some (.cells #[.slice A1 xr.length d1, .int .i64 xw] 66 (0, 0))) := ⟨heap_alloc_new _ _⟩
        clear hB0
        cases hp : pick xr cols with
        | none =>
          have HST : As (itemsL cols z = none) := ⟨by rw [← HI.out, itemsL_stop cols z k ⟨xr, xw⟩ HX.out (by simp [itemG, hp])]; rfl⟩
          replace HIT := HIT.out
          unfold ItemPost at HIT
          rw [hp] at HIT
          simp only at HIT
          clear hp
          go_wp2_with (go_at_call 63; refine HIT.mono ?_; rintro e w2 ⟨hB, rfl⟩; have HB2 := As.mk (HB0.out.trans (hB.mono HB0.out.size)); clear hB)
          go_ret
          have hB3 := HB2.out.alloc HB2.out.size (.cells #[.string ⟨#[]⟩, .string ⟨#[]⟩, .slice none 0 0, .int .i64 0] 122)
          refine ⟨(Mut.refl _ _ _).ext hB3, ?_⟩
          rw [if_neg (by simp [HQ.out])]
          simp only [HST.out]
          exact ⟨rfl, HSP.out.ext hB3⟩
        | some key =>
          have HIG : As (itemG cols ⟨xr, xw⟩ = some ⟨encB key, encB xr, xr, xw⟩) := ⟨by simp [itemG, hp]⟩
          have HST := As.mk (itemsL_step cols z k ⟨xr, xw⟩ _ HX.out HIG.out ys)
          have hk1 := encB_size key
          have hk2 := encB_size xr
          have HK1 : As ((encB key).size ≤ 9223372036854775807) := ⟨by omega⟩
          have HK2 : As ((encB xr).size ≤ 9223372036854775807) := ⟨by omega⟩
          replace HIT := HIT.out
          unfold ItemPost at HIT
          rw [hp] at HIT
          simp only at HIT
          clear hp hk1 hk2 HIG
          generalize encB key = ek at *
          generalize encB xr = er at *
          go_wp2_with (first | (go_at_call 63; refine HIT.mono ?_; rintro e w2 ⟨hB, A2, d2, rfl, hv2⟩; obtain ⟨q0, q1, q2⟩ := cells2 ((hB.block wr.heap.size (by simp)).trans HE1'.out); have HB2 := As.mk (HB0.out.trans (hB.mono HB0.out.size)); have HV2 := As.mk (hv2.mv (Stays.mono (ok' := Fresh w.heap.size [96]) fun k t h => ⟨Nat.le_trans HB0.out.size h.1, h.2⟩)); have HO2 := As.mk ((HO0.out.below hB).imp fun _ _ h => EIt.mv h (Stays.below hB _)); clear hB hv2) | (at_builtin; have hBW : Below w2.heap.size w2 (w2.alloc (.cells #[.string ek, .string er, .slice A2 xr.length d2, .int .i64 xw] 122)) := (Below.refl _ _).alloc (Nat.le_refl _) _; have HB3 := As.mk (HB2.out.trans (hBW.mono HB2.out.size)); have HV3 := As.mk (HV2.out.ext hBW); have HO3 := As.mk ((HO2.out.below hBW).imp fun _ _ h => EIt.mv h (Stays.below hBW (Fresh w.heap.size [96]))); have hbz := HB3.out.size; have hln : ys.length < 4294967296 := (by omega); clear hBW; refine OwnL.append (W := w2.alloc (.cells #[.string ek, .string er, .slice A2 xr.length d2, .int .i64 xw] 122)) w.heap.size rfl (.tmp 41) (.tmp 43) 133 122 _ 4 64 rfl Tryz.underlying133 info_item rfl (by decide) (by decide) u5 ys ⟨ek, er, xr, xw⟩ [.string ek, .string er, .slice A2 xr.length d2, .int .i64 xw] rfl (show Value.slice (some ⟨w2.heap.size + 1, 0, none⟩) 1 1 = _ by simp) (E := EIt (w2.alloc (.cells #[.string ek, .string er, .slice A2 xr.length d2, .int .i64 xw] 122)) (Fresh w.heap.size [96])) ⟨_, rfl, HXW.out, HK1.out, HK2.out, HV3.out⟩ rfl (by simp [Value.oneCell']) HO3.out HB3.out hbz hln rfl ?_; intro v1 w4 hown hb' hg' _; have HO4 := As.mk (hown.imp fun _ _ h => EIt.mv h (HO3.out.rowStays hg' (ok := Fresh w.heap.size [96]) (fun k h => by have := h.2; simp at this))); have HB4 := As.mk hb'; clear hown hb' hg'))
          go_roundg (z.length - (k + 1))
          case measure => omega
          case rel => exact ⟨k + 1, ys ++ [⟨ek, er, xr, xw⟩], by omega, by omega, by go_num, by simp [hyl], HO4, HB4, ⟨by rw [← HI.out, HST.out]⟩⟩
      · have hltz : ¬ (k : Int) < (z.length : Int) := by omega
        obtain rfl : k = z.length := by omega
        have HIT : As (itemsL cols z = some ys) := ⟨by rw [← HI.out, List.drop_eq_nil_of_le (by omega)]; simp [itemsL]⟩
        obtain ⟨A5, c5, rfl, _⟩ := HO.out.shape
        have d2 := (HB.out.cell (World.block_lt_of_cell? w _ c2)).trans c2
        have hbl := World.block_lt_of_cell? w _ c2
        have hyz : ys.length ≤ 4294967296 := by omega
        clear HI
        generalize wr = wo at *
        go_wp2_with fail
        go_loopg [10, 52] ys.length (fun g s10 s52 wr2 => ∃ (j : Nat) (l : Int), j ≤ ys.length ∧ ys.length - j ≤ g ∧ s52 = .int .i64 j ∧ s10 = .int .i64 l ∧ (-(j : Int) ≤ l ∧ l ≤ 549755813888 + (j : Int)) ∧ As (Ext wo wr2) ∧ As (liveL bs live ys = liveL bs l (ys.drop j)))
        case atStart => exact ⟨0, live, by omega, by omega, by go_num, rfl, by omega, ⟨Ext.refl _⟩, ⟨rfl⟩⟩
        case round =>
          obtain ⟨j, l, hj, hg2, rfl, rfl, hlb, HE2, HLV⟩ := hrel
          by_cases hlt2 : j < ys.length
          · have hltz2 : (j : Int) < (ys.length : Int) := by omega
            obtain ⟨y, hy⟩ : ∃ y, ys[j]? = some y := ⟨_, List.getElem?_eq_getElem hlt2⟩
            have hrd : RdT _ AnyB _ ys := RdL.move (HO.out.rd (ok := AnyB) fun _ _ => trivial) (fun _ _ h => EIt.mv h (Stays.any _ _)) (Stays.mono fun _ _ h => h)
            obtain ⟨b1, o1, c1', A1, d1', hv, hb1, hys, hyr, _, g0, g1, g2, g3⟩ := RdT.itm (hrd.ext HE2.out.below) hy
            injection hv with hA _ hccc
            subst hA
            have HWT := fun W (hE : Ext wo W) => weight_any base b ⟨cols, bs, live⟩ y.key y.enc A1 y.row.length d1' y.size W (HSP.out.ext (HB.out.trans (hE.below.mono HB.out.size))) HR.out
            have hdr : ys.drop j = y :: ys.drop (j + 1) := by
              obtain ⟨h1, rfl⟩ := List.getElem?_eq_some_iff.1 hy
              exact List.drop_eq_getElem_cons h1
            have HST : As (liveL bs live ys = if overW (weightL bs y.key y.enc) y.size = true then none else liveL bs (stepN l (weightL bs y.key y.enc) y.size) (ys.drop (j + 1))) := ⟨by rw [HLV.out, hdr, liveL]⟩
            have hwi : i64 (weightL bs y.key y.enc) := by unfold weightL wrap64 i64; omega
            clear hrd hyr hy hccc hdr
            simp only at HWT
            obtain ⟨yk, ye, yr, yss⟩ := y
            simp only at *
            generalize weightL bs yk ye = old at *
            have hnw : IntKind.i64.wrap (old + yss) = wrap64 (old + yss) := by rw [IntKind.wrap_i64]; unfold wrap64; omega
            have hsn : stepN l old yss = if old = 0 then l + 1 else if wrap64 (old + yss) = 0 then l - 1 else l := rfl
            have hov : overW old yss = ((decide (0 < old) && decide (4611686018427387904 - old < yss)) || (decide (old < 0) && decide (yss < -4611686018427387904 - old))) := rfl
            generalize wrap64 (old + yss) = nw at *
            generalize stepN l old yss = l' at *
            generalize overW old yss = ov at *
            obtain ⟨y0, y1, y2, y3, _⟩ := cells4 (heap_alloc_new wr (.cells #[.string yk, .string ye, .slice A1 yr.length d1', .int .i64 yss] 122))
            have k1 : IntKind.i64.wrap (l + 1) = l + 1 := by rw [IntKind.wrap_i64]; omega
            have k2 : IntKind.i64.wrap (l - 1) = l - 1 := by rw [IntKind.wrap_i64]; omega
            unfold i64 at hwi
            have HHOV := As.mk hov
            have HHSN := As.mk hsn
            clear hov hsn
            rcases Int.lt_trichotomy old 0 with ho | ho | ho
            · have k3 : IntKind.i64.wrap (-4611686018427387904 - old) = -4611686018427387904 - old := by rw [IntKind.wrap_i64]; omega
              have n1 : ¬ 0 < old := by omega
              have n2 : (old == 0) = false := by simp; omega
              have n3 : old ≠ 0 := by omega
              by_cases hc1 : yss < -4611686018427387904 - old
              · obtain rfl : ov = true := by rw [HHOV.out]; simp [ho, hc1]
                go_wp2_with (go_at_call 64; refine (HWT _ (HE2.out.trans (Ext.alloc (Ext.refl _) _))).mono ?_; rintro e w6 ⟨rfl, hE6⟩; have HE6 := As.mk ((HE2.out.trans (Ext.alloc (Ext.refl _) _)).trans hE6); have t3 := hE6.cell y3; clear hE6)
                go_ret
                have hBF := HB.out.trans (HE6.out.below.mono HB.out.size)
                refine ⟨(Mut.refl _ _ _).ext hBF, ?_⟩
                rw [if_neg (by simp [HQ.out])]
                simp only [HIT.out, HST.out, if_true]
                exact ⟨rfl, HSP.out.ext hBF⟩
              · obtain rfl : ov = false := by rw [HHOV.out]; simp [n1, hc1]
                by_cases hc2 : nw = 0
                · obtain rfl : l' = l - 1 := by rw [HHSN.out, if_neg n3, if_pos hc2]
                  have n4 : (nw == 0) = true := by simpa using hc2
                  clear hc2
                  go_wp2_with (go_at_call 64; refine (HWT _ (HE2.out.trans (Ext.alloc (Ext.refl _) _))).mono ?_; rintro e w6 ⟨rfl, hE6⟩; have HE6 := As.mk ((HE2.out.trans (Ext.alloc (Ext.refl _) _)).trans hE6); have t3 := hE6.cell y3; clear hE6)
                  go_roundg (ys.length - (j + 1))
                  case measure => omega
                  case rel => exact ⟨j + 1, l - 1, by omega, by omega, by go_num, by first | rfl | go_num, by omega, HE6, ⟨by rw [HST.out]; simp⟩⟩
                · obtain rfl : l' = l := by rw [HHSN.out, if_neg n3, if_neg hc2]
                  have n4 : (nw == 0) = false := by simpa using hc2
                  clear hc2
                  go_wp2_with (go_at_call 64; refine (HWT _ (HE2.out.trans (Ext.alloc (Ext.refl _) _))).mono ?_; rintro e w6 ⟨rfl, hE6⟩; have HE6 := As.mk ((HE2.out.trans (Ext.alloc (Ext.refl _) _)).trans hE6); have t3 := hE6.cell y3; clear hE6)
                  go_roundg (ys.length - (j + 1))
                  case measure => omega
                  case rel => exact ⟨j + 1, l', by omega, by omega, by go_num, by first | rfl | go_num, by omega, HE6, ⟨by rw [HST.out]; simp⟩⟩
            · subst ho
              obtain rfl : ov = false := by rw [HHOV.out]; simp
              obtain rfl : l' = l + 1 := by rw [HHSN.out, if_pos rfl]
              go_wp2_with (go_at_call 64; refine (HWT _ (HE2.out.trans (Ext.alloc (Ext.refl _) _))).mono ?_; rintro e w6 ⟨rfl, hE6⟩; have HE6 := As.mk ((HE2.out.trans (Ext.alloc (Ext.refl _) _)).trans hE6); have t3 := hE6.cell y3; clear hE6)
              go_roundg (ys.length - (j + 1))
              case measure => omega
              case rel => exact ⟨j + 1, l + 1, by omega, by omega, by go_num, by first | rfl | go_num, by omega, HE6, ⟨by rw [HST.out]; simp⟩⟩
            · have k3 : IntKind.i64.wrap (4611686018427387904 - old) = 4611686018427387904 - old := by rw [IntKind.wrap_i64]; omega
              have n1 : ¬ old < 0 := by omega
              have n2 : (old == 0) = false := by simp; omega
              have n3 : old ≠ 0 := by omega
              by_cases hc1 : 4611686018427387904 - old < yss
              · obtain rfl : ov = true := by rw [HHOV.out]; simp [ho, hc1]
                go_wp2_with (go_at_call 64; refine (HWT _ (HE2.out.trans (Ext.alloc (Ext.refl _) _))).mono ?_; rintro e w6 ⟨rfl, hE6⟩; have HE6 := As.mk ((HE2.out.trans (Ext.alloc (Ext.refl _) _)).trans hE6); have t3 := hE6.cell y3; clear hE6)
                go_ret
                have hBF := HB.out.trans (HE6.out.below.mono HB.out.size)
                refine ⟨(Mut.refl _ _ _).ext hBF, ?_⟩
                rw [if_neg (by simp [HQ.out])]
                simp only [HIT.out, HST.out, if_true]
                exact ⟨rfl, HSP.out.ext hBF⟩
              · obtain rfl : ov = false := by rw [HHOV.out]; simp [n1, hc1]
                by_cases hc2 : nw = 0
                · obtain rfl : l' = l - 1 := by rw [HHSN.out, if_neg n3, if_pos hc2]
                  have n4 : (nw == 0) = true := by simpa using hc2
                  clear hc2
                  go_wp2_with (go_at_call 64; refine (HWT _ (HE2.out.trans (Ext.alloc (Ext.refl _) _))).mono ?_; rintro e w6 ⟨rfl, hE6⟩; have HE6 := As.mk ((HE2.out.trans (Ext.alloc (Ext.refl _) _)).trans hE6); have t3 := hE6.cell y3; clear hE6)
                  go_roundg (ys.length - (j + 1))
                  case measure => omega
                  case rel => exact ⟨j + 1, l - 1, by omega, by omega, by go_num, by first | rfl | go_num, by omega, HE6, ⟨by rw [HST.out]; simp⟩⟩
                · obtain rfl : l' = l := by rw [HHSN.out, if_neg n3, if_neg hc2]
                  have n4 : (nw == 0) = false := by simpa using hc2
                  clear hc2
                  go_wp2_with (go_at_call 64; refine (HWT _ (HE2.out.trans (Ext.alloc (Ext.refl _) _))).mono ?_; rintro e w6 ⟨rfl, hE6⟩; have HE6 := As.mk ((HE2.out.trans (Ext.alloc (Ext.refl _) _)).trans hE6); have t3 := hE6.cell y3; clear hE6)
                  go_roundg (ys.length - (j + 1))
                  case measure => omega
                  case rel => exact ⟨j + 1, l', by omega, by omega, by go_num, by first | rfl | go_num, by omega, HE6, ⟨by rw [HST.out]; simp⟩⟩
          · have hltz2 : ¬ (j : Int) < (ys.length : Int) := by omega
            obtain rfl : j = ys.length := by omega
            have HLF : As (liveL bs live ys = some l) := ⟨by rw [HLV.out, List.drop_eq_nil_of_le (by omega)]; rfl⟩
            have HBR := As.mk (HB.out.trans (HE2.out.below.mono HB.out.size))
            have HOR : As (OwnL 4 (EIt wr (Fresh w.heap.size [96])) 122 wr w.heap.size (.slice A5 ys.length c5) ys) := ⟨(HO.out.ext HE2.out).imp fun _ _ h => EIt.mv h (Stays.below HE2.out.below _)⟩
            clear HLV
            by_cases hy0 : ys = []
            · subst hy0
              have hz00 : z.length = 0 := by simpa using hyl.symm
              have hnz : ¬ (0 : Int) < (z.length : Int) := by omega
              have hB := HBR.out.block b hbl
              obtain ⟨v0, v1, v2, v3, v4, v5⟩ := spine_cells (hB.trans HBK.out)
              have hSP := (HSP.out.ext HBR.out).setLive l
              have HSE := As.mk (settle_any base b cols l bs _ (fun k hk => HBW.out k (by have := HBR.out.size; simp at hk; omega)) hSP (by have := HH.out; omega) (by simp at hlb; omega))
              have HM9 := As.mk (((Mut.refl base b w).ext HBR.out).set 2 (.int .i64 l))
              clear hB hSP
              go_wp2_with (go_at_call 80; go_loud (refine HSE.out.mono ?_; rintro e w9 ⟨rfl, bs2, hS, hl2⟩; have HS9 := As.mk hS; clear hS))
              go_ret
              refine ⟨HM9.out.trans HS9.out.2.2, ?_⟩
              rw [if_neg (by simp [HQ.out])]
              simp only [HIT.out, HLF.out]
              exact ⟨rfl, bs, bs2, by simp, HS9.out.2.1, hl2, HS9.out.1⟩
            · have hyl0 : 0 < ys.length := List.length_pos_iff.2 hy0
              have hylz : 0 < (ys.length : Int) := by omega
              have HY0 := As.mk hy0
              have hsi := sortItems_any w.heap.size _ ys (Fresh w.heap.size [96]) wr HOR.out hyl0
              rw [hyl] at hsi
              have HSI := As.mk hsi
              have HSM := As.mk (settle_any base b cols l)
              have HLB := As.mk hlb
              clear hy0 hsi
              go_wp2_with (first | (go_at_call 78; go_loud (refine HSI.out.mono ?_; rintro e w7 ⟨rfl, hg7, zs, hp, hso, hrd⟩; have hb7 := HBR.out.grown hg7 HBR.out.size (fun k hk => (HOR.out.lt k (by rw [hyl]; exact hk)).1); have HB7 := As.mk hb7; have HK7 := As.mk ((hb7.block b hbl).trans HBK.out); have HP7 := As.mk hp; have HSO7 := As.mk hso; have HCS7 := As.mk (HCS0.out.ext hb7); have HU7 := As.mk ((HU0.out.below hb7).imp fun _ _ h => EBt.mv h (Stays.below hb7 (RowB base))); have HRD7 : As (RdT w7 (RowB base) (.slice A5 z.length c5) zs) := ⟨RdL.move (hrd (RowB base) (fun k hk => ⟨HBW.out k hk, (by simp)⟩)) (fun _ _ h => EIt.mv h ((HOR.out.rowStays (hyl ▸ hg7) (ok := Fresh w.heap.size [96]) (fun k h => (by have := h.2; simp at this))).trans (Stays.mono fun k t h => ⟨HBW.out k h.1, (by have := h.2; simp at this; simp [this])⟩))) (Stays.mono fun _ _ h => h)⟩; have hbs7 := Nat.zero_le w7.heap.size; have HBW7 : As (∀ k, w7.heap.size ≤ k → base k) := ⟨fun k hk => HBW.out k (Nat.le_trans hb7.size hk)⟩; obtain ⟨v0, v1, v2, v3, v4, v5⟩ := spine_cells HK7.out; clear hg7 hp hso hrd hb7))  | (at_builtin; go_loud (refine OwnL.append (W := w7) (w0 := w7) 0 rfl (.tmp 103) (.tmp 105) 134 133 _ 1 24 rfl Tryz.underlying134 info_items rfl (by decide) (by decide) bv bs zs [.slice A5 z.length c5] rfl rfl ⟨_, rfl, HRD7.out⟩ rfl (by simp [Value.oneCell']) HU7.out (Below.refl _ _) hbs7 HN.out rfl ?_; intro v8 w8 hown8 hb8 hg8 hat8; obtain ⟨A3, c3, rfl, hB3, hS3, hM3⟩ := sp_push HK7.out HCS7.out HU7.out HPP.out hown8 (own_next HPP.out HBW7.out hat8) hg8; have HS8 := As.mk (hS3.setLive l); have HM8 := As.mk (hM3.set 2 (.int .i64 l)); obtain ⟨f0, f1, f2, f3, f4, f5⟩ := spine_cells hB3; clear hown8 hb8 hg8 hat8 hB3 hS3 hM3))  | (go_at_call 80; go_loud (refine (HSM.out (bs ++ [zs]) _ (fun k hk => HBW7.out k (Nat.le_trans HM8.out.size hk)) HS8.out (by rw [heldL_app]; simp only [heldL]; have h1 := HP7.out.length_eq; have h2 := HH.out; omega) (by have := HLB.out; omega)).mono ?_; rintro e w9 ⟨rfl, bs2, hS, hl2⟩; have HS9 := As.mk hS; clear hS)))
              go_ret
              refine ⟨(((Mut.refl base b w).ext HB7.out).trans HM8.out).trans HS9.out.2.2, ?_⟩
              rw [if_neg (by simp [HQ.out])]
              simp only [HIT.out, HLF.out]
              exact ⟨rfl, bs ++ [zs], bs2, by rw [if_neg HY0.out]; exact ⟨zs, HP7.out, HSO7.out.imp fun h => Int.not_lt.2 h, rfl⟩, HS9.out.2.1, hl2, HS9.out.1⟩
end Go.Proofs.YtflckpfpgpfjlaaGreatDoor
