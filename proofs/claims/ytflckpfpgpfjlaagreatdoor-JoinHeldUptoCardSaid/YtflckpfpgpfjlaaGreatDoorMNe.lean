/- The walk of the reference's join of two bags. -/
import Derived.Test.YtflckpfpgpfjlaaGreatDoorMNd
import Derived.Test.YtflckpfpgpfjlaaGreatDoorMKm
set_option linter.unusedVariables false
set_option linter.unusedSimpArgs false
namespace Go.Proofs.YtflckpfpgpfjlaaGreatDoor
open Go.RowKit Go.Sort
theorem JRes.light {lc rc : List Int} {wl wr : Nat} {a b z : List GE} (h : JRes lc rc wl wr a b z) (ha : ZOk a) (hb : ZOk b) (hs : Small lc rc a b) : z.any heavyE = false := by
  rw [List.any_eq_false]
  intro x hx
  obtain ⟨p, q, hp, hq, hpl, hql, e⟩ := h.pair x hx
  have h1 := h.pt p q hp hq hpl hql
  rw [← e, h.ok.at hx] at h1
  unfold heavyE
  rw [h1]
  unfold jw
  split
  · next hm =>
    have := hs.at ha hb p q ((sameR_eq _ _).1 hm)
    simp; omega
  · simp
def RJoinPost (lc rc : List Int) (nl nr : Nat) (a b : List GE) (w : World) (e : Ending) (w' : World) : Prop := Below w.heap.size w w' ∧ ((¬ Small lc rc a b ∧ e = .returned (.agg #[.slice none 0 0, .int .i64 14])) ∨ (Small lc rc a b ∧ ∃ (A : Option Addr) (c : Nat) (y : List GE), e = .returned (.agg #[.slice A y.length c, .int .i64 0]) ∧ JRes lc rc nl nr a b y ∧ RdZ2 w' w.heap.size (.slice A y.length c) y ∧ y.length ≤ a.length * b.length))
theorem pre_len2 {lc rc : List Int} {a b : List GE} {i : Nat} (hi : i < a.length) (x : GE) (k : Nat) (h : a.length * b.length ≤ 4000000) : (pairsL lc rc (a.take i) b ++ rowP lc rc x (b.take k)).length ≤ 4000000 := by
  have h1 := flat_len (a.take i) (fun x => rowP lc rc x b) b.length (fun x _ => rowP_len (lc := lc) (rc := rc) x b)
  have h2 := rowP_len (lc := lc) (rc := rc) x (b.take k)
  have h3 : (a.take i).length ≤ i := List.length_take_le _ _
  have h4 : (b.take k).length ≤ b.length := List.length_take_le' _ _
  have h5 : (a.take i).length * b.length ≤ i * b.length := Nat.mul_le_mul_right _ h3
  have h6 : (i + 1) * b.length ≤ a.length * b.length := Nat.mul_le_mul_right _ (by omega)
  rw [Nat.add_mul, Nat.one_mul] at h6
  rw [List.length_append]
  show ((a.take i).flatMap (fun x => rowP lc rc x b)).length + _ ≤ 4000000
  omega
theorem mul64_low {X Y : Nat} (hx : X ≤ 1099511627776) (hy : Y ≤ 1099511627776) (h : X * Y ≤ 1099511627776) (w : World) : Calls Tryz.prog 119 #[.int .u64 X, .int .u64 Y] w fun e w' => e = .returned (.tuple #[.int .u64 0, .int .u64 ((X * Y : Nat) : Int)]) ∧ w = w' := by
  refine (mul64_any X Y (by omega) (by omega) w).mono ?_
  rintro e w' ⟨rfl, rfl⟩
  refine ⟨?_, rfl⟩
  rw [Nat.div_eq_of_lt (by omega), Nat.mod_eq_of_lt (by omega)]
  rfl
theorem mul64_high {X Y : Nat} (hx : X ≤ 1099511627776) (hy : Y ≤ 1099511627776) (h : ¬ X * Y ≤ 1099511627776) : ∃ H L : Int, (0 < H ∨ (H = 0 ∧ 1099511627776 < L)) ∧ ∀ w : World, Calls Tryz.prog 119 #[.int .u64 X, .int .u64 Y] w fun e w' => e = .returned (.tuple #[.int .u64 H, .int .u64 L]) ∧ w = w' := by
  refine ⟨((X * Y / 18446744073709551616 : Nat) : Int), ((X * Y % 18446744073709551616 : Nat) : Int), ?_, fun w => (mul64_any X Y (by omega) (by omega) w).mono fun e w' ⟨h1, h2⟩ => ⟨h1, h2.symm⟩⟩
  generalize X * Y = z at *
  omega
def RdvB : Blk := Fresh 0 [96]
theorem rdv_not (k : Nat) (h : RdvB k 66) : False := by have := h.2; simp at this
set_option maxRecDepth 100000 in
set_option maxHeartbeats 1000000 in
theorem r7join_any (u v s t : Value) (lc rc : List Int) (a b : List GE) (nl nr : Nat) (w : World) (ha : RdZ w AnyB u a) (hb : RdZ w AnyB v b) (h1 : RdI w AnyB s lc) (h2 : RdI w AnyB t rc) (WA : WBag nl a) (WB : WBag nr b) (hcol : Cols2 lc rc nl nr) (hl : a.length * b.length ≤ 4000000) :
    Calls Tryz.prog 99 #[u, v, s, t] w (RJoinPost lc rc nl nr a b w) := by
  have mixed := mixed
  obtain ⟨A, c, rfl, _⟩ := ha.shape
  obtain ⟨B, d, rfl, _⟩ := hb.shape
  obtain ⟨C1, e1, rfl, _⟩ := h1.shape
  obtain ⟨C2, e2, rfl, _⟩ := h2.shape
  have hal := ha.len
  have hbl := hb.len
  obtain ⟨W0, hW0⟩ : ∃ W0, W0 = w.alloc (.cells #[.slice none 0 0, .int .i64 0] 103) := ⟨_, rfl⟩
  have hE0 : Ext w W0 := hW0 ▸ Ext.alloc (Ext.refl w) _
  have hs0 : W0.heap.size = w.heap.size + 1 := by rw [hW0]; simp
  have hr0 : W0.heap[w.heap.size]? = some (.cells #[.slice none 0 0, .int .i64 0] 103 (0, 0)) := by rw [hW0]; exact heap_alloc_new w _
  have HE0 := As.mk hE0.below
  have HR0 := As.mk hr0
  have HA := As.mk (ha.ext HE0.out)
  have HB := As.mk (hb.ext HE0.out)
  have H1 := As.mk (h1.ext HE0.out)
  have H2 := As.mk (h2.ext HE0.out)
  have HWA := As.mk WA
  have HWB := As.mk WB
  have HCO := As.mk hcol
  have HL := As.mk hl
  have hsz : w.heap.size < W0.heap.size := by omega
  clear ha hb h1 h2 WA WB hcol hl hE0 hr0
  go_enter Tryz.func99, Tryz.ntmps99
  go_wp2_with fail
  rw [← hW0, ← hs0]
  clear hW0 hs0
  have HO0 := As.mk (OwnL.made 2 (EE (W0.alloc (.cells #[] 66)) (Fresh W0.heap.size [96])) 66 W0 W0.heap.size #[] 0 (Nat.le_refl _) (by decide) rfl)
  have HB0 : As (Below W0.heap.size W0 (W0.alloc (.cells #[] 66))) := ⟨(Ext.alloc (Ext.refl _) _).below⟩
  go_loopg [9, 10, 11, 12, 13, 14] a.length (fun g s9 s10 _ _ _ _ wr => ∃ i : Nat, i ≤ a.length ∧ a.length - i ≤ g ∧ s10 = .int .i64 i ∧ As (OwnL 2 (EE wr (Fresh W0.heap.size [96])) 66 wr W0.heap.size s9 (pairsL lc rc (a.take i) b)) ∧ As (Below W0.heap.size W0 wr) ∧ As (Small lc rc (a.take i) b))
  case atStart => exact ⟨0, Nat.zero_le _, by omega, rfl, HO0, HB0, ⟨fun x hx => by cases hx⟩⟩
  case round =>
    obtain ⟨i, hi, hg, rfl, HO, HBW, HS⟩ := hrel
    by_cases hlt : i < a.length
    · have hltz : (i : Int) < (a.length : Int) := by omega
      obtain ⟨x, hx⟩ : ∃ x, a[i]? = some x := ⟨_, List.getElem?_eq_getElem hlt⟩
      have HXM := As.mk (List.mem_of_getElem? hx)
      have HPL := As.mk (fun k => pre_len2 (lc := lc) (rc := rc) hlt x k HL.out)
      have HSN := As.mk (pairs_snoc (lc := lc) (rc := rc) (b := b) hx)
      have HSS := As.mk (fun h2 => small_step hx HS.out h2)
      obtain ⟨b1, o1, c1', Ax, dx, hv, hb1, hxw, hrow, x0, x1⟩ := RdZ.ent (HA.out.ext HBW.out) hx
      injection hv with hA _ hcc
      subst hA hcc
      have HXB := As.mk (fun W (hB : Below W0.heap.size W0 W) => RdZ.ent (HA.out.ext hB) hx)
      have hxo := HWA.out.ok.row x HXM.out
      obtain ⟨kx, hkx⟩ := pick_in hxo (HWA.out.len x HXM.out) HCO.out.left
      have HKEY := As.mk (r7key_any (.slice Ax x.row.length dx) (.slice C1 lc.length e1) x.row kx lc wr hrow (H1.out.ext HBW.out) (pick_pickL hkx))
      have HKX := As.mk hkx
      clear hx hrow hxo hkx
      generalize pairsL lc rc (a.take i) b = pre at *
      go_wp2_with fail
      refine HKEY.out.mono ?_
      rintro e w1 ⟨Ak, ck, rfl, hrk, hBk⟩
      have HB1 := As.mk (HBW.out.trans (hBk.mono HBW.out.size))
      have HRK := As.mk (hrk.mv (Stays.mono (ok' := RdvB) fun k t h => ⟨Nat.zero_le _, h.2⟩))
      have HO1 := As.mk ((HO.out.below hBk).imp fun _ _ h => EE.mv h (Stays.below hBk _))
      clear hBk hrk HKEY HO HBW x0 x1
      go_wp2_with fail
      go_loopg [9, 12, 13, 14] b.length (fun g s9 s12 _ _ wr => ∃ k : Nat, k ≤ b.length ∧ b.length - k ≤ g ∧ s12 = .int .i64 k ∧ As (OwnL 2 (EE wr (Fresh W0.heap.size [96])) 66 wr W0.heap.size s9 (pre ++ rowP lc rc x (b.take k))) ∧ As (Below W0.heap.size W0 wr) ∧ As (RdV wr RdvB (.slice Ak kx.length ck) kx) ∧ As (∀ y ∈ b.take k, meetK lc rc x.row y.row = true → x.w * y.w ≤ 1099511627776))
      case atStart => exact ⟨0, Nat.zero_le _, by omega, rfl, ⟨by rw [show rowP lc rc x (b.take 0) = [] from rfl, List.append_nil]; exact HO1.out⟩, HB1, HRK, ⟨fun y hy => by cases hy⟩⟩
      case round =>
        clear HO1 HRK HB1
        obtain ⟨k, hk, hgk, rfl, HO, HBW, HRK, HT⟩ := hrel
        by_cases hkl : k < b.length
        · have hklz : (k : Int) < (b.length : Int) := by omega
          obtain ⟨y, hy⟩ : ∃ y, b[k]? = some y := ⟨_, List.getElem?_eq_getElem hkl⟩
          have HYM := As.mk (List.mem_of_getElem? hy)
          obtain ⟨b2, o2, c2', Ay, dy, hv2, hb2, hyw, hyrow, y0, y1⟩ := RdZ.ent (HB.out.ext HBW.out) hy
          injection hv2 with hA _ hcc
          subst hA hcc
          have hyo := HWB.out.ok.row y HYM.out
          obtain ⟨ky, hky⟩ := pick_in hyo (HWB.out.len y HYM.out) HCO.out.right
          have HKEY := As.mk (r7key_any (.slice Ay y.row.length dy) (.slice C2 rc.length e2) y.row ky rc wr hyrow (H2.out.ext HBW.out) (pick_pickL hky))
          have HMT := As.mk (meetK_pick HKX.out hky)
          have HYB := As.mk (fun W (hB : Below W0.heap.size W0 W) => RdZ.ent (HB.out.ext hB) hy)
          have HYES := As.mk (fun h => rowP_yes (lc := lc) (rc := rc) (x := x) hy h)
          have HNO := As.mk (fun h => rowP_no (lc := lc) (rc := rc) (x := x) hy h)
          have HTT := As.mk (fun h => take_all HT.out hy h)
          have HLK := As.mk (HPL.out k)
          have hyp := HWB.out.w y HYM.out
          have hxp := HWA.out.w x HXM.out
          have HLX := As.mk (HWA.out.len x HXM.out)
          have HLY := As.mk (HWB.out.len y HYM.out)
          have HXYM := As.mk (fun (h : Small lc rc a b) => h x HXM.out y HYM.out)
          clear hy hyo hky hyrow hyw y1
          go_wp2_with fail
          refine HKEY.out.mono ?_
          rintro e w2 ⟨Ay', cy', rfl, hrk, hBk⟩
          have HB2 := As.mk (HBW.out.trans (hBk.mono HBW.out.size))
          have HSAME := As.mk (same2_any (.slice Ak kx.length ck) (.slice Ay' ky.length cy') kx ky w2 ((HRK.out.ext hBk).mv (Stays.any _ _)) (hrk.mv (Stays.any _ _)))
          rw [← HMT.out] at HSAME
          have HO2 := As.mk ((HO.out.below hBk).imp fun _ _ h => EE.mv h (Stays.below hBk _))
          have HRK2 := As.mk (HRK.out.ext hBk)
          clear hBk hrk HKEY HO HRK HBW y0
          go_wp2_with fail
          refine HSAME.out.mono ?_
          rintro e w3' ⟨rfl, m, rfl⟩
          have hE3 : Ext w2 (w2.drewN m) := Ext.drewN (Ext.refl _) m
          have HB3 := As.mk (HB2.out.trans (hE3.below.mono HB2.out.size))
          have HO3 := As.mk ((HO2.out.ext hE3).imp fun _ _ h => EE.mv h (Stays.below hE3.below _))
          have HRK3 := As.mk (HRK2.out.ext hE3.below)
          clear hE3 HSAME HO2 HRK2 HB2
          generalize w2.drewN m = w3 at *
          cases hmt : meetK lc rc x.row y.row with
          | false =>
            have HN2 := As.mk (HNO.out hmt)
            have HT2 := As.mk (HTT.out (fun h => by rw [hmt] at h; cases h))
            clear hmt
            go_wp2_with fail
            go_roundg (b.length - (k + 1))
            case measure => omega
            case rel => exact ⟨k + 1, by omega, by omega, by go_num, ⟨by rw [HN2.out]; exact HO3.out⟩, HB3, HRK3, HT2⟩
          | true =>
            have HY2 := As.mk (HYES.out hmt)
            have HTT2 := As.mk (fun h => HTT.out (fun _ => h))
            have HXY2 := As.mk (fun h => HXYM.out h hmt)
            clear hmt
            obtain ⟨b1', o1', c1'', Ax', dx', hv', _, hxw', hrow, x0, x1⟩ := HXB.out w3 HB3.out
            injection hv' with hA hn hcc
            injection hA with hA
            injection hA with hA1 hA2 _
            subst hA1 hA2 hcc
            obtain ⟨b2', o2', c2'', Ay2, dy2, hv', _, hyw', hyrow, y0, y1⟩ := HYB.out w3 HB3.out
            injection hv' with hA hn hcc
            injection hA with hA
            injection hA with hA1 hA2 _
            subst hA1 hA2 hcc
            obtain ⟨xr, xw⟩ := x
            obtain ⟨yr, yw⟩ := y
            simp only at *
            obtain ⟨X, rfl⟩ := Int.eq_ofNat_of_zero_le (show 0 ≤ xw by omega)
            obtain ⟨Y, rfl⟩ := Int.eq_ofNat_of_zero_le (show 0 ≤ yw by omega)
            have ex : IntKind.u64.wrap (X : Int) = X := by rw [IntKind.wrap_u64]; omega
            have ey : IntKind.u64.wrap (Y : Int) = Y := by rw [IntKind.wrap_u64]; omega
            have gx0 := gc x0
            have gx1 := gc x1
            have gy0 := gc y0
            have gy1 := gc y1
            have HRX := As.mk hrow
            have HRY := As.mk hyrow
            clear hrow hyrow
            by_cases hle : X * Y ≤ 1099511627776
            · have HM := As.mk (fun W => mul64_low (X := X) (Y := Y) (by omega) (by omega) hle W)
              go_wp2_with fail
              go_quiet ((go_at_call 119; exact quiet_same (HM.out _)))
              have hle' : ¬ (1099511627776 : Int) < (X : Int) * (Y : Int) := by have : ((X : Int) * (Y : Int)) = ((X * Y : Nat) : Int) := by simp
                                                                                rw [this]; omega
              have hxy0 : 0 ≤ (X : Int) * (Y : Int) := Int.mul_nonneg (by omega) (by omega)
              have hwm : IntKind.i64.wrap ((X : Int) * (Y : Int)) = (X : Int) * (Y : Int) := by rw [IntKind.wrap_i64]; omega
              have HWI : As (i64 ((X : Int) * (Y : Int))) := ⟨by unfold i64; omega⟩
              have HT3 := As.mk (HTT2.out (by omega))
              have HE4 : As (Ext w3 (w3.drewN nq)) := ⟨Ext.drewN (Ext.refl _) nq⟩
              have k0 := HE4.out.cell x0
              have l0 := HE4.out.cell y0
              have HB4 := As.mk (HB3.out.trans (HE4.out.below.mono HB3.out.size))
              have HO4 := As.mk ((HO3.out.ext HE4.out).imp fun _ _ h => EE.mv h (Stays.below HE4.out.below _))
              have HRK4 := As.mk (HRK3.out.ext HE4.out.below)
              have HRX4 := As.mk (HRX.out.ext HE4.out.below)
              have HRY4 := As.mk (HRY.out.ext HE4.out.below)
              clear gx0 gx1 gy0 gy1 x0 x1 y0 y1 HE4 HB3 HO3 HRK3 HRX HRY HM hle hxw hxw' hyw' HKX HMT
              generalize w3.drewN nq = w4 at *
              have hlk := HLK.out
              have HLZ : As ((pre ++ rowP lc rc ⟨xr, X⟩ (b.take k)).length < 4294967296) := ⟨by omega⟩
              have HW0 : As (Below W0.heap.size W0 w4.drew) := ⟨HB4.out.drew⟩
              have HO0 : As (OwnL 2 (EE w4.drew (Fresh W0.heap.size [96])) 66 w4.drew W0.heap.size u9 (pre ++ rowP lc rc ⟨xr, X⟩ (b.take k))) := ⟨((HO4.out.ext (Ext.drew (Ext.refl _))).imp fun _ _ h => EE.mv h (Stays.below (Ext.drew (Ext.refl _)).below _))⟩
              have HJN := As.mk (r7joined_any (.slice Ax' xr.length dx') (.slice Ay2 yr.length dy2) xr yr w4.drew (HRX4.out.ext (Ext.drew (Ext.refl _)).below) (HRY4.out.ext (Ext.drew (Ext.refl _)).below) (by have h1 := HLX.out; have h2 := HLY.out; have h3 := HCO.out.wide; omega))
              have HRKD := As.mk (HRK4.out.ext (Ext.drew (Ext.refl w4)).below)
              clear HB4 HO4 HRK4 HRX4 HRY4 hlk HLK
              generalize xr ++ yr = row at *
              go_wp2_with fail
              go_region_law (first | (refine OwnL.append_step (W := w5) W0.heap.size rfl (.tmp 68) (.tmp 83) 34 66 _ 2 32 rfl Tryz.underlying34 info_entry rfl (by decide) (by decide) u9 (pre ++ rowP lc rc ⟨xr, X⟩ (b.take k)) ⟨row, (X : Int) * (Y : Int)⟩ [.slice A5 row.length c5, .int .i64 ((X : Int) * (Y : Int))] (by go_simp) (by go_simp) (E := EE w5 (Fresh W0.heap.size [96])) ⟨_, rfl, HWI.out, HU5.out⟩ rfl (by simp [Value.oneCell']) HO5.out HB5.out hbz HLZ.out rfl ?_; intro v1 w6 hown hb' hg'; have HO6 := As.mk (hown.imp fun _ _ h => EE.mv h (HO5.out.rowStays hg' (ok := Fresh W0.heap.size [96]) (fun k h => by have := h.2; simp at this))); have HB6 := As.mk hb'; have HRK6 := As.mk (HRK5.out.mv (HO5.out.rowStays hg' (ok := RdvB) rdv_not)); clear hown hb' hg') | (go_simp; go_at_call 157; refine HJN.out.mono ?_; rintro e w5 ⟨A5, c5, rfl, hr5, hB⟩; have HU5 := As.mk (hr5.mv (Stays.mono (ok' := Fresh W0.heap.size [96]) fun k t h => ⟨Nat.le_trans HW0.out.size h.1, h.2⟩)); have HO5 := As.mk ((HO0.out.below hB).imp fun _ _ h => EE.mv h (Stays.below hB _)); have HB5 := As.mk (HW0.out.trans (hB.mono HW0.out.size)); have HRK5 := As.mk (HRKD.out.ext hB); have hbz := HB5.out.size; clear hr5 hB))
              all_goals (go_wp2; go_roundg (b.length - (k + 1)); (case measure => omega); (case rel => exact ⟨k + 1, by omega, by omega, by go_num, ⟨by rw [HY2.out, ← List.append_assoc]; exact HO6.out⟩, HB6, HRK6, HT3⟩))
            · obtain ⟨H, L, hHL, hm⟩ := mul64_high (X := X) (Y := Y) (by omega) (by omega) hle
              have HM := As.mk hm
              clear hm
              go_wp2_with fail
              go_quiet ((go_at_call 119; exact quiet_same (HM.out _)))
              have HE4 : As (Ext w3 (w3.drewN nq)) := ⟨Ext.drewN (Ext.refl _) nq⟩
              have HB4 := As.mk (HE0.out.trans ((HB3.out.trans (HE4.out.below.mono HB3.out.size)).mono HE0.out.size))
              have HRS := As.mk (((HB3.out.trans (HE4.out.below.mono HB3.out.size)).block _ hsz).trans HR0.out)
              obtain ⟨r0, r1, _⟩ := cells2 HRS.out
              have hz0 := Lib.frozen_of_heap HRS.out 0
              have hz1 := Lib.frozen_of_heap HRS.out 1
              have HNS : As (¬ Small lc rc a b) := ⟨fun h => by have h1 := HXY2.out h; have : ((X : Int) * (Y : Int)) = ((X * Y : Nat) : Int) := (by simp); rw [this] at h1; omega⟩
              clear gx0 gx1 gy0 gy1 x0 x1 y0 y1 HE4 HB3 HO3 HRK3 HRX HRY HM hle hxw hxw' hyw'
              generalize w3.drewN nq = w4 at *
              rcases hHL with hH | ⟨rfl, hL⟩
              · go_wp2_with fail
                ((try simp only [Exit.inBlock, Exit.then]); refine bodyPost_ret (results_cell_row rfl _ _ w.heap.size 103 _ (0, 0) _ rfl (set2_heap HRS.out) Tryz.underlying103 rfl (by kernel_rfl)) rfl ?_)
                exact ⟨below_set (below_set HB4.out (Nat.le_refl _)) (Nat.le_refl _), .inl ⟨HNS.out, rfl⟩⟩
              · go_wp2_with fail
                ((try simp only [Exit.inBlock, Exit.then]); refine bodyPost_ret (results_cell_row rfl _ _ w.heap.size 103 _ (0, 0) _ rfl (set2_heap HRS.out) Tryz.underlying103 rfl (by kernel_rfl)) rfl ?_)
                exact ⟨below_set (below_set HB4.out (Nat.le_refl _)) (Nat.le_refl _), .inl ⟨HNS.out, rfl⟩⟩
        · have hklz : ¬ (k : Int) < (b.length : Int) := by omega
          obtain rfl : k = b.length := by omega
          rw [List.take_length] at HO HT
          go_wp2
          go_roundg (a.length - (i + 1))
          case measure => omega
          case rel => exact ⟨i + 1, by omega, by omega, by go_num, ⟨by rw [HSN.out]; exact HO.out⟩, HBW, ⟨HSS.out HT.out⟩⟩
    · have hltz : ¬ (i : Int) < (a.length : Int) := by omega
      obtain rfl : i = a.length := by omega
      rw [List.take_length] at HO HS
      have hrd : RdZ wr AnyB _ (pairsL lc rc a b) := RdL.move (HO.out.rd (ok := AnyB) fun _ _ => trivial) (fun _ _ e => EE.mv e (Stays.any _ _)) (Stays.any _ _)
      obtain ⟨A9, c9, rfl, _⟩ := hrd.shape
      obtain ⟨r1, r2, r3⟩ := pairs_res HCO.out.wide HWA.out.ok HWB.out.ok HWA.out.len HWB.out.len (fun x hx => (HWA.out.w x hx).1) (fun x hx => (HWB.out.w x hx).1) HS.out
      have hpll := pairsL_len lc rc a b
      have hll := HL.out
      have HMK := As.mk (r7made_any _ (pairsL lc rc a b) wr hrd (by omega) r1 r2)
      have HR3 := As.mk r3
      have HPLE := As.mk hpll
      have HRS := As.mk ((HBW.out.block _ hsz).trans HR0.out)
      clear hrd r1 r2 r3 hpll hll
      generalize pairsL lc rc a b = pl at *
      go_wp2_with fail
      refine HMK.out.mono ?_
      rintro e w5 ⟨hB5, z, hmd, h⟩
      have HRES := As.mk (HR3.out z hmd)
      rcases h with ⟨hh, _⟩ | ⟨_, A7, c7, rfl, hr7, hl7⟩
      · exact absurd hh (by rw [HRES.out.light HWA.out.ok HWB.out.ok HS.out]; decide)
      · have HB5 := As.mk (HE0.out.trans ((HBW.out.trans (hB5.mono HBW.out.size)).mono HE0.out.size))
        have HRS5 := As.mk ((hB5.block _ (Nat.lt_of_lt_of_le hsz HBW.out.size)).trans HRS.out)
        have hwz : w.heap.size < wr.heap.size := Nat.lt_of_lt_of_le hsz HBW.out.size
        have HR7 := As.mk hr7
        have HZL := As.mk (Nat.le_trans hl7 HPLE.out)
        have HRS := HRS5
        obtain ⟨r0, r1, _⟩ := cells2 HRS.out
        have hz0 := Lib.frozen_of_heap HRS.out 0
        have hz1 := Lib.frozen_of_heap HRS.out 1
        clear hB5 hmd hr7 hl7 HR3
        go_wp2_with fail
        ((try simp only [Exit.inBlock, Exit.then]); refine bodyPost_ret (results_cell_row rfl _ _ w.heap.size 103 _ (0, 0) _ rfl (set2_heap HRS.out) Tryz.underlying103 rfl (by kernel_rfl)) rfl ?_)
        exact ⟨below_set (below_set HB5.out (Nat.le_refl _)) (Nat.le_refl _), .inr ⟨HS.out, _, _, z, rfl, HRES.out, (rdz2_poke2 HR7.out hwz).low (Nat.le_of_lt hwz), HZL.out⟩⟩
end Go.Proofs.YtflckpfpgpfjlaaGreatDoor
