/- The walk of the law SpineHeld, given that 'awake' says true. -/
import Derived.Test.YtmpndmjfdijamaaGreatDoorAct
set_option linter.unusedVariables false
set_option linter.unusedSimpArgs false
namespace Go.Proofs.YtmpndmjfdijamaaGreatDoor
open Go.RowKit Go.Sort
/-- What one round leaves. -/
def Round (base b : Nat) (w wr : World) (cols : List Int) (i : Nat) : Prop := ∃ S, SpAt base b wr S ∧ Inv S ∧ S.cols = cols ∧ heldL S.bs ≤ i * 100 ∧ S.live ≤ i * 100 ∧ Below w.heap.size w wr
set_option maxHeartbeats 8000000 in
set_option maxRecDepth 100000 in
theorem lawHeld_any (hA : ∀ W, GW W → Calls Tryz.prog 8 #[] W fun e w' => e = .returned (.bool true) ∧ Below W.heap.size W w') (u v : Value) (cols : List Int) (acts : List GA) (w : World) (hw : GW w) (hc : RdI w AnyB u cols) (ha : RdA w AnyB v acts) :
    Calls Tryz.prog 4 #[u, v] w fun e w' => e = .returned (.bool true) ∧ Below w.heap.size w w' := by
  have h0 := hA w hw
  obtain ⟨A, c, rfl, hac⟩ := ha.shape
  have hal := ha.len
  have HW := As.mk hw
  have HAC := As.mk ha
  cases hco : colsOk cols with
  | false =>
    have h1 := fun W (hE : Below w.heap.size w W) => spNew_bad u cols W (hc.ext hE) hco
    clear hA hc ha hw
    go_enter Tryz.func4, Tryz.ntmps4
    go_wp2_with (first | (go_at_call 8; refine h0.mono ?_; rintro e w1 ⟨rfl, hB1⟩) | (go_at_call 9; refine (h1 _ hB1).mono ?_; rintro e w2 ⟨rfl, hB2⟩))
    go_ret
    exact ⟨rfl, hB1.trans (hB2.mono hB1.size)⟩
  | true =>
    have h1 := fun W (hE : Below w.heap.size w W) => spNew_good u cols W (hc.ext hE) hco
    obtain ⟨_, _, hu, _⟩ := hc.shape
    subst hu
    clear hA hc ha hw
    go_enter Tryz.func4, Tryz.ntmps4
    go_wp2_with (first | (go_at_call 8; refine h0.mono ?_; rintro e w1 ⟨rfl, hB1⟩) | (go_at_call 9; refine (h1 _ hB1).mono ?_; rintro e w2 ⟨b, rfl, hN, hB2⟩; have HN := As.mk hN.sp; have HB2 := As.mk (hB1.trans (hB2.mono hB1.size)); have HBB := As.mk hN.1; have hbase2 := hB2.size; clear hN hB2))
    have hb1 : w.heap.size ≤ w1.heap.size := hB1.size
    have HBW := As.mk HB2.out.size
    generalize w1.heap.size = base at *
    go_loopg [7] 100 (fun g s7 wr => ∃ (i : Nat), i ≤ 100 ∧ 100 - i ≤ g ∧ s7 = .int .i64 i ∧ base ≤ wr.heap.size ∧ As (Round base b w wr cols i))
    case atStart => exact ⟨0, by omega, by omega, by go_num, hbase2, ⟨⟨⟨cols, [], 0⟩, HN.out, Inv.new cols, rfl, by simp [heldL], by simp, HB2.out⟩⟩⟩
    case round =>
      obtain ⟨i, hi, hg, rfl, hbw, HR⟩ := hrel
      by_cases hlt : i < acts.length ∧ i < 100
      · obtain ⟨hlt1, hlt2⟩ := hlt
        have hltz : (i : Int) < (acts.length : Int) := by omega
        have hltz2 : (i : Int) < 100 := by omega
        obtain ⟨x, hx⟩ : ∃ x, acts[i]? = some x := ⟨_, List.getElem?_eq_getElem hlt1⟩
        obtain ⟨S, hS, hI, hcs, hH, hL, hBw⟩ := HR.out
        obtain ⟨ba, oa, ca, Ad, dd, hv, hba, hd0, e0w, e1w⟩ := HAC.out.act hx
        have hd := hd0.ext hBw
        have e0 := (hBw.cell (p := ⟨ba, oa + i * 2, none⟩) hba).trans e0w
        have e1 := (hBw.cell (p := ⟨ba, oa + i * 2 + 1, none⟩) hba).trans e1w
        clear hd0
        injection hv with hA' _ hccc
        subst hA'
        obtain ⟨dz, pk⟩ := x
        simp only at *
        by_cases hbig : 100 < dz.length
        · have hbz : (100 : Int) < (dz.length : Int) := by omega
          clear hS hI hd hx
          go_wp2_with fail
          go_ret
          exact ⟨rfl, hBw⟩
        · have hbz : ¬ (100 : Int) < (dz.length : Int) := by omega
          have hIl := hI.live
          have hIn := hI.fine.nums
          have HPUT := As.mk (put_any base b S (.slice Ad dz.length dd) dz wr (HW.out.below hBw) (hd.mv (Stays.mono fun _ _ h => h)) hbw hS (fun z hz => (hI.fine z hz).1) (by omega) (by omega) (by omega))
          have HSI := As.mk hI
          have HDV := As.mk hd.vals
          have HBW' := As.mk hBw
          have HCS := As.mk hcs
          clear hS hI hd hx hIl hIn hccc hBw hcs
          go_wp2_with fail
          refine HPUT.out.mono ?_
          rintro e w2 hpost
          obtain ⟨hM, err, S2, rfl, hS2, hI2, hc2, hH2, hL2⟩ := put_inv HSI.out HDV.out hpost
          have hB2 : Below w.heap.size w w2 := HBW'.out.trans (hM.below (by omega) (by have := HBB.out; omega) HBW'.out.size)
          have hbw2 : base ≤ w2.heap.size := Nat.le_trans hbw hM.size
          have hIl := hI2.live
          have hlh : S2.live ≤ (heldL S2.bs : Int) := by have := allL_len S2.bs; omega
          have hhe := hI2.held
          have hz0 := hI2.fine.zero
          have hHe := fun W (hB : Below w2.heap.size w2 W) => spHeld_any base b S2 W (hS2.ext hB) (by omega)
          have hLe := fun W (hB : Below w2.heap.size w2 W) => spLen_any base b S2 W (hS2.ext hB)
          have hBa := fun W (hB : Below w2.heap.size w2 W) => spBatches_any base b S2 W (hS2.ext hB)
          have hAl := fun W (hB : Below w2.heap.size w2 W) => all_any base b S2 W (hS2.ext hB) (by omega) hI2.sound
          have hCo := fun W (hB : Below w2.heap.size w2 W) => compact_any base b S2.cols S2.live S2.bs W (Nat.le_trans hbw2 hB.size) (hS2.ext hB) (by omega)
          have hbb : ((S2.bs.length : Int) == 0) = ((heldL S2.bs : Int) == 0) := by
            by_cases h : S2.bs = []
            · rw [h]; rfl
            · have h1 : S2.bs.length ≠ 0 := fun h' => h (List.eq_nil_of_length_eq_zero h')
              have h2 : heldL S2.bs ≠ 0 := fun h' => h (hz0.1 h')
              rw [beq_eq_false_iff_ne.2 (by omega), beq_eq_false_iff_ne.2 (by omega)]
          have hlen : ((allL S2.bs).map GI.ent).length = (allL S2.bs).length := by simp
          have HI2 := As.mk hI2
          have HS2 := As.mk hS2
          have HB2 := As.mk hB2
          have HC2 := As.mk hc2
          have HH2 := As.mk hH2
          have HL2 := As.mk hL2
          have HLV := As.mk hIl
          clear hI2 hS2 hB2 hc2 hM hpost hz0 hIl
          have k1 : IntKind.i64.wrap (2 * S2.live) = 2 * S2.live := by rw [IntKind.wrap_i64]; omega
          have k2 : IntKind.i64.wrap (2 * S2.live + 16) = 2 * S2.live + 16 := by rw [IntKind.wrap_i64]; omega
          have n1 : ¬ (heldL S2.bs : Int) < S2.live := by omega
          have n2 : ¬ 2 * S2.live + 16 < (heldL S2.bs : Int) := by omega
          obtain ⟨c2, bs2, l2⟩ := S2
          unfold ZPost at hAl
          simp only at *
          generalize hhd : heldL bs2 = hd2 at *
          generalize bs2.length = nb2 at *
          clear hhe hlh
          cases pk with
          | false =>
            go_wp2_with (first | (go_at_call 23; refine (hHe _ (Below.refl _ _)).mono ?_; rintro e w' ⟨rfl, rfl⟩) | (go_at_call 14; refine (hLe _ (Below.refl _ _)).mono ?_; rintro e w' ⟨rfl, rfl⟩) | (go_at_call 24; refine (hBa _ (Below.refl _ _)).mono ?_; rintro e w' ⟨rfl, rfl⟩) | (go_at_call 21; refine (hAl _ (Below.refl _ _)).mono ?_; rintro e w3 ⟨v3, rfl, hB3, xs, hp, hso, hrd⟩; obtain ⟨A3, c3, rfl, _⟩ := hrd.shape; have n5 : (l2 != (xs.length : Int)) = false := (by rw [HLV.out, hp.length_eq, hlen]; simp); have HB3 := As.mk hB3; have e3 := ((HB2.out.trans (hB3.mono HB2.out.size)).cell (p := ⟨ba, oa + i * 2 + 1, none⟩) hba).trans e1w; clear hp hso hrd hB3))
            go_roundg (100 - (i + 1))
            case measure => omega
            case rel => exact ⟨i + 1, by omega, by omega, by go_num, Nat.le_trans hbw2 HB3.out.size, ⟨⟨c2, bs2, l2⟩, HS2.out.ext HB3.out, HI2.out, HC2.out.trans HCS.out, by simp only; rw [hhd]; have := HH2.out; omega, by have := HL2.out; simp only; omega, HB2.out.trans (HB3.out.mono HB2.out.size)⟩⟩
          | true =>
            go_wp2_with (first | (go_at_call 23; refine (hHe _ (Below.refl _ _)).mono ?_; rintro e w' ⟨rfl, rfl⟩) | (go_at_call 14; refine (hLe _ (Below.refl _ _)).mono ?_; rintro e w' ⟨rfl, rfl⟩) | (go_at_call 24; refine (hBa _ (Below.refl _ _)).mono ?_; rintro e w' ⟨rfl, rfl⟩) | (go_at_call 21; refine (hAl _ HB3.out).mono ?_; rintro e w4 ⟨v4, rfl, hB4, xs1, hp, hso, hrd⟩; obtain ⟨A4, c4, rfl, _⟩ := hrd.shape; have HB4 := As.mk (HB3.out.trans (hB4.mono HB3.out.size)); have HP1 := As.mk hp; have HSO1 := As.mk hso; have HRD1 := As.mk hrd; clear hp hso hrd hB4) | (go_at_call 21; refine (hAl _ (Below.refl _ _)).mono ?_; rintro e w3 ⟨v3, rfl, hB3, xs, hp, hso, hrd⟩; obtain ⟨A3, c3, rfl, _⟩ := hrd.shape; have n5 : (l2 != (xs.length : Int)) = false := (by rw [HLV.out, hp.length_eq, hlen]; simp); have HB3 := As.mk hB3; have e3 := ((HB2.out.trans (hB3.mono HB2.out.size)).cell (p := ⟨ba, oa + i * 2 + 1, none⟩) hba).trans e1w; clear hp hso hrd hB3))
            refine (hCo _ HB4.out).mono ?_
            rintro e w5 ⟨rfl, bs3, ⟨hS5, hJ5, hM5⟩, hl3⟩
            have hI3 := hJ5.inv HI2.out.fine HI2.out.row HLV.out (.inl hl3)
            have hh3 := held_one hl3
            have hlv3 := hI3.live
            obtain ⟨_, _, hb4, _⟩ := (HS2.out.ext HB4.out).bat
            have hB5 : Below w.heap.size w w5 := (HB2.out.trans (HB4.out.mono HB2.out.size)).trans (hM5.below (by omega) (by have := HBB.out; omega) (Nat.le_trans HB2.out.size HB4.out.size))
            have hrd5 : RdZ w5 AnyB (.slice A4 xs1.length c4) xs1 := HRD1.out.both.mv (hM5.stays hb4 fun k t h => ⟨fun e => by have := h.2; rw [e] at this; simp at this, fun e => by have := h.2; rw [e] at this; simp at this, trivial⟩)
            have hHe := fun W (hB : Below w5.heap.size w5 W) => spHeld_any base b _ W (hS5.ext hB) (by simp only; have := hJ5.held; omega)
            have hLe := fun W (hB : Below w5.heap.size w5 W) => spLen_any base b _ W (hS5.ext hB)
            have hBa := fun W (hB : Below w5.heap.size w5 W) => spBatches_any base b _ W (hS5.ext hB)
            have hAl := fun W (hB : Below w5.heap.size w5 W) => all_any base b _ W (hS5.ext hB) (by simp only; have := hJ5.held; omega) hI3.sound
            unfold ZPost at hAl
            simp only at *
            have n6 : ((heldL bs3 : Int) != l2) = false := by rw [hh3, ← hlv3]; simp
            have n7 : ¬ (1 : Int) < (bs3.length : Int) := by omega
            have HTS := fun (xs2 : List GE) (h1 : xs2.Perm ((allL bs3).map GI.ent)) (h2 : xs2.Pairwise fun x y => ¬ rlex y.row x.row < 0) => told_same HI2.out.fine HI2.out.row hJ5 HP1.out h1 (HSO1.out.imp fun h => Int.not_lt.2 h) h2
            have HI3 := As.mk hI3
            have HS5 := As.mk hS5
            have HB5 := As.mk hB5
            have HRD5 := As.mk hrd5
            have HJH := As.mk hJ5.held
            have HTT := As.mk HTS
            have hbw5 : base ≤ w5.heap.size := Nat.le_trans (Nat.le_trans hbw2 HB4.out.size) hM5.size
            clear hI3 hS5 hB5 hrd5 HTS hJ5 hM5 hb4 hh3 hlv3
            go_wp2_with (first | (go_at_call 23; refine (hHe _ (Below.refl _ _)).mono ?_; rintro e w' ⟨rfl, rfl⟩) | (go_at_call 14; refine (hLe _ (Below.refl _ _)).mono ?_; rintro e w' ⟨rfl, rfl⟩) | (go_at_call 24; refine (hBa _ (Below.refl _ _)).mono ?_; rintro e w' ⟨rfl, rfl⟩) | (go_at_call 21; refine (hAl _ (Below.refl _ _)).mono ?_; rintro e w6 ⟨v6, rfl, hB6, xs2, hp, hso, hrd⟩; have hxx : xs2 = xs1 := HTT.out xs2 hp (by first | exact hso | exact hso.imp fun h => Int.not_lt.2 h | exact hso.imp fun h => Int.not_lt.1 h); obtain ⟨A6, c6, rfl, _⟩ := hrd.shape; have HSM := As.mk (same3_any _ _ _ _ w6 hrd.any (HRD5.out.ext hB6)); rw [(sameZ_eq xs2 xs1).2 hxx] at HSM; have HB6 := As.mk hB6; clear hp hso hrd hB6 hxx) | (go_at_call 18; refine HSM.out.mono ?_; rintro e w7 ⟨rfl, m7, rfl⟩))
            go_roundg (100 - (i + 1))
            case measure => omega
            case rel => exact ⟨i + 1, by omega, by omega, by go_num, Nat.le_trans hbw5 HB6.out.size, ⟨⟨c2, bs3, l2⟩, (HS5.out.ext HB6.out).ext (Ext.drewN (Ext.refl _) _).below, HI3.out, HC2.out.trans HCS.out, by have h1 := HJH.out; have h2 := HH2.out; simp only; omega, by have := HL2.out; simp only; omega, (HB5.out.trans (HB6.out.mono HB5.out.size)).trans ((Ext.drewN (Ext.refl _) _).below.mono (Nat.le_trans HB5.out.size HB6.out.size))⟩⟩
      · obtain ⟨S, hS, hI, hcs, hH, hL, hBw⟩ := HR.out
        by_cases hlt1 : i < acts.length
        · have hltz : (i : Int) < (acts.length : Int) := by omega
          have hltz2 : ¬ (i : Int) < 100 := by omega
          go_wp2_with fail
          go_ret
          exact ⟨rfl, hBw⟩
        · have hltz : ¬ (i : Int) < (acts.length : Int) := by omega
          go_wp2_with fail
          go_ret
          exact ⟨rfl, hBw⟩
end Go.Proofs.YtmpndmjfdijamaaGreatDoor
