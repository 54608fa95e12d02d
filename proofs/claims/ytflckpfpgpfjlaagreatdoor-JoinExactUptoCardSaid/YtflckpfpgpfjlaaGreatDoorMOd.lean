/- The walk of JoinExact. Under way. -/
import Derived.Test.YtflckpfpgpfjlaaGreatDoorMOe
import Derived.Test.YtflckpfpgpfjlaaGreatDoorMKx
import Derived.Deep.RegionHeld3
import Derived.BigQuiet
set_option linter.unusedVariables false
set_option linter.unusedSimpArgs false
namespace Go.Proofs.YtflckpfpgpfjlaaGreatDoor
open Go.RowKit Go.Sort
set_option maxRecDepth 100000 in
set_option maxHeartbeats 1000000 in
theorem jStep_nil (v : Value) (w : World) : Calls Tryz.prog 13 #[.pointer none, v] w (fun e w' => w' = w ∧ e = .returned (.tuple #[.slice none 0 0, .int .i64 2])) := by
  have mixed := mixed
  go_enter Tryz.func13, Tryz.ntmps13
  go_wp2_with fail
  go_ret2
  exact ⟨rfl, rfl⟩
set_option maxRecDepth 100000 in
set_option maxHeartbeats 2000000 in
theorem lawJExact_walk (op m1 m2 nk : Int) (name : ByteArray) (anti : Bool) (A1 A2 A3 A4 A5 A6 A7 : Option Addr) (c1 c2 l3 c3 l4 c4 l5 c5 l6 c6 l7 c7 : Nat) (lc rc widths : List Int) (ds : List (List (List GE))) (u v : Value) (w : World) (hw : GW w) (h1 : RdI w AnyB (.slice A1 lc.length c1) lc) (h2 : RdI w AnyB (.slice A2 rc.length c2) rc) (hu : RdI w AnyB u widths) (hv : RdDD w AnyB v ds) (hP : NodeC w (PlanAt w 80) [.int .i64 op, .int .i64 m1, .int .i64 m2, .int .i64 nk, .string name, .bool anti, .slice A1 lc.length c1, .slice A2 rc.length c2, .slice A3 l3 c3, .slice A4 l4 c4, .slice A5 l5 c5, .slice A6 l6 c6, .slice A7 l7 c7])
    (haw : ∀ W, GW W → Calls Tryz.prog 8 #[] W fun e w' => e = .returned (.bool true) ∧ Below W.heap.size W w') :
    Calls Tryz.prog 6 #[.agg #[.int .i64 op, .int .i64 m1, .int .i64 m2, .int .i64 nk, .string name, .bool anti, .slice A1 lc.length c1, .slice A2 rc.length c2, .slice A3 l3 c3, .slice A4 l4 c4, .slice A5 l5 c5, .slice A6 l6 c6, .slice A7 l7 c7], u, v] w fun e w' => e = .returned (.bool true) ∧ Below w.heap.size w w' := by
  have mixed := mixed
  obtain ⟨A, c, rfl, _⟩ := hu.shape
  obtain ⟨D, d, rfl, _⟩ := hv.shape
  have hdl := hv.len
  have hul := hu.len
  obtain ⟨W0, hW0⟩ : ∃ W0, W0 = w.alloc (.cells #[.int .i64 op, .int .i64 m1, .int .i64 m2, .int .i64 nk, .string name, .bool anti, .slice A1 lc.length c1, .slice A2 rc.length c2, .slice A3 l3 c3, .slice A4 l4 c4, .slice A5 l5 c5, .slice A6 l6 c6, .slice A7 l7 c7] 28) := ⟨_, rfl⟩
  have HND := As.mk (node_all w op m1 m2 nk name anti A1 A2 A3 A4 A5 A6 A7 lc.length c1 rc.length c2 l3 c3 l4 c4 l5 c5 l6 c6 l7 c7 28 W0 hW0)
  have hE0 : Ext w W0 := hW0 ▸ Ext.alloc (Ext.refl w) _
  have hsz : w.heap.size < W0.heap.size := by rw [hW0]; simp
  have HW0B := As.mk hE0.below
  have HAW := As.mk (haw W0 (hw.below hE0.below))
  have HG := As.mk (hw.below hE0.below)
  have H1 := As.mk (h1.ext hE0.below)
  have H2 := As.mk (h2.ext hE0.below)
  have HU := As.mk (hu.ext hE0.below)
  have HV := As.mk (hv.ext hE0.below)
  have HP := As.mk (hP.ext hE0.below fun _ => PlanAt.ext hE0.below)
  clear hw h1 h2 hu hv hP haw hE0
  go_enter Tryz.func6, Tryz.ntmps6
  go_wp2_with fail
  rw [← hW0]
  clear hW0
  refine HAW.out.mono ?_
  rintro e w2 ⟨rfl, hB2⟩
  have HB2 := As.mk hB2
  obtain ⟨n0, n1, n2, n3, n4, n5, n6, n7, n8, n9, n10, n11, n12⟩ := HND.out
  have n0 := bc hB2 n0
  have n1 := bc hB2 n1
  have n2 := bc hB2 n2
  have n3 := bc hB2 n3
  have n4 := bc hB2 n4
  have n5 := bc hB2 n5
  have n6 := bc hB2 n6
  have n7 := bc hB2 n7
  have n8 := bc hB2 n8
  have n9 := bc hB2 n9
  have n10 := bc hB2 n10
  have n11 := bc hB2 n11
  have n12 := bc hB2 n12
  clear hB2
  by_cases h20 : widths.length ≤ 20
  · have h20n : ¬ ((20 : Int) < (widths.length : Int)) := by omega
    have HGR := As.mk (r6Great_any _ 200 _ (plan_one (HP.out.ext HB2.out fun _ => PlanAt.ext HB2.out)))
    have HVA := As.mk (fun W (hB : Below w2.heap.size w2 W) => lVast_all (.slice A widths.length c) (.slice D ds.length d) widths ds W ((HU.out.ext HB2.out).ext hB) ((HV.out.ext HB2.out).ext hB))
    go_wp2_with fail
    refine HGR.out.mono ?_
    intro e w3 hq
    obtain ⟨⟨q, rfl⟩, hE3⟩ := hq
    have hB3 : Below w2.heap.size w2 w3 := ((Ext.alloc (Ext.refl w2) _).trans hE3).below
    have HB3 := As.mk hB3
    have n0 := bc hB3 n0
    have n1 := bc hB3 n1
    have n2 := bc hB3 n2
    have n3 := bc hB3 n3
    have n4 := bc hB3 n4
    have n5 := bc hB3 n5
    have n6 := bc hB3 n6
    have n7 := bc hB3 n7
    have n8 := bc hB3 n8
    have n9 := bc hB3 n9
    have n10 := bc hB3 n10
    have n11 := bc hB3 n11
    have n12 := bc hB3 n12
    clear hB3 hE3 HGR
    cases q with
    | true =>
      go_wp2_with fail
      go_ret
      exact ⟨rfl, HW0B.out.trans ((HB2.out.trans (HB3.out.mono HB2.out.size)).mono (Nat.le_of_lt hsz))⟩
    | false =>
      go_wp2_with fail
      refine (HVA.out w3 HB3.out).mono ?_
      intro e w4 hq
      obtain ⟨⟨q, rfl⟩, hE4⟩ := hq
      have hB4 := hE4.below
      have HB4 := As.mk (HB2.out.trans ((HB3.out.trans (hB4.mono HB3.out.size)).mono HB2.out.size))
      have n0 := bc hB4 n0
      have n1 := bc hB4 n1
      have n2 := bc hB4 n2
      have n3 := bc hB4 n3
      have n4 := bc hB4 n4
      have n5 := bc hB4 n5
      have n6 := bc hB4 n6
      have n7 := bc hB4 n7
      have n8 := bc hB4 n8
      have n9 := bc hB4 n9
      have n10 := bc hB4 n10
      have n11 := bc hB4 n11
      have n12 := bc hB4 n12
      clear hB4 hE4 HVA
      cases q with
      | true =>
        go_wp2_with fail
        go_ret
        exact ⟨rfl, HW0B.out.trans (HB4.out.mono (Nat.le_of_lt hsz))⟩
      | false =>
        have HJN := As.mk (jNew_any op m1 m2 nk name anti A1 A2 A3 A4 A5 A6 A7 c1 c2 l3 c3 l4 c4 l5 c5 l6 c6 l7 c7 lc rc widths (.slice A widths.length c) w4 (H1.out.ext HB4.out) (H2.out.ext HB4.out) (HU.out.ext HB4.out))
        have HRN := As.mk (fun W (hB : Below w4.heap.size w4 W) => r9New_any op m1 m2 nk name anti A1 A2 A3 A4 A5 A6 A7 c1 c2 l3 c3 l4 c4 l5 c5 l6 c6 l7 c7 lc rc widths (.slice A widths.length c) W ((H1.out.ext HB4.out).ext hB) ((H2.out.ext HB4.out).ext hB) ((HU.out.ext HB4.out).ext hB))
        go_wp2_with fail
        refine HJN.out.mono ?_
        rintro e w5 ⟨hB5, hj⟩
        have HB5 := As.mk hB5
        have n0 := bc hB5 n0
        have n1 := bc hB5 n1
        have n2 := bc hB5 n2
        have n3 := bc hB5 n3
        have n4 := bc hB5 n4
        have n5 := bc hB5 n5
        have n6 := bc hB5 n6
        have n7 := bc hB5 n7
        have n8 := bc hB5 n8
        have n9 := bc hB5 n9
        have n10 := bc hB5 n10
        have n11 := bc hB5 n11
        have n12 := bc hB5 n12
        clear hB5 HJN
        rcases hj with ⟨rfl, hno⟩ | ⟨b, bl, br, x, y, ho, hwd, hok, g1, g2, g3, rfl, hJ⟩
        · have HNO := As.mk hno
          clear hno
          go_wp2_with fail
          refine (HRN.out w5 HB5.out).mono ?_
          rintro e w6 ⟨hB6, hr⟩
          have HB6 := As.mk (HB4.out.trans ((HB5.out.trans (hB6.mono HB5.out.size)).mono HB4.out.size))
          clear hB6 n0 n1 n2 n3 n4 n5 n6 n7 n8 n9 n10 n11 n12 HRN
          rcases hr with ⟨_, rfl⟩ | ⟨_, _, _, x, y, _, _, _, _, _, _, ho, hwd, hok, _⟩
          · have HV6 := As.mk (RdDD.ext HV.out HB6.out)
            clear h20
            go_wp2_with fail
            go_loopg [6, 11, 12, 13, 14, 15, 16] 40 (fun g _ s11 _ _ _ _ _ wr => ∃ i : Nat, i ≤ 40 ∧ 40 - i ≤ g ∧ s11 = .int .i64 i ∧ As (Below w6.heap.size w6 wr))
            case atStart => exact ⟨0, by omega, by omega, rfl, ⟨Below.refl _ _⟩⟩
            case round =>
              obtain ⟨i, hi, hg, rfl, HL⟩ := hrel
              have HEND := As.mk (HW0B.out.trans ((HB6.out.trans (HL.out.mono HB6.out.size)).mono (Nat.le_of_lt hsz)))
              by_cases hlt : i < ds.length
              · have hz1 : (i : Int) < (ds.length : Int) := by omega
                by_cases h40 : i < 40
                · have hz2 : (i : Int) < 40 := by omega
                  obtain ⟨E, hE⟩ : ∃ E, ds[i]? = some E := ⟨_, List.getElem?_eq_getElem hlt⟩
                  obtain ⟨b2, o2, c2', A2', d2, hv2, hb2, hr2, e0⟩ := HV6.out.ds hE
                  injection hv2 with hA _ hcc
                  subst hA hcc
                  have e0 := bc HL.out e0
                  have HMU := As.mk (lMuch_any (.slice A2' E.length d2) E wr (RdD.ext hr2 HL.out))
                  clear hr2 hE
                  go_wp2_with fail
                  refine HMU.out.mono ?_
                  rintro e w7 ⟨q, rfl, rfl, _⟩
                  cases q with
                  | true =>
                    go_wp2_with fail
                    go_ret
                    exact ⟨rfl, HEND.out⟩
                  | false =>
                    go_wp2_with fail
                    refine (jStep_nil _ _).mono ?_
                    rintro e w8 ⟨rfl, rfl⟩
                    go_wp2_with fail
                    refine (r8Step_nil _ _).mono ?_
                    rintro e w9 ⟨rfl, rfl⟩
                    have HS3 := As.mk (fun W => same3_any (.slice none 0 0) (.slice none 0 0) [] [] W (RdL.nil _ _ _ _) (RdL.nil _ _ _ _))
                    go_wp2_with fail
                    refine (HS3.out _).mono ?_
                    rintro e w10 ⟨rfl, m, rfl⟩
                    have hsz0 : sameZ [] [] = true := rfl
                    rw [hsz0]
                    go_wp2_with fail
                    go_roundg (40 - (i + 1))
                    case measure => omega
                    case rel => exact ⟨i + 1, by omega, by omega, by go_num, ⟨HL.out.trans ((Ext.drewN (Ext.refl _) _).below.mono HL.out.size)⟩⟩
                · have hz2 : ¬ (i : Int) < 40 := by omega
                  go_wp2_with fail
                  go_ret
                  exact ⟨rfl, HEND.out⟩
              · have hz1 : ¬ (i : Int) < (ds.length : Int) := by omega
                go_wp2_with fail
                go_ret
                exact ⟨rfl, HEND.out⟩
          · exact absurd ⟨ho, x, y, hwd, hok⟩ HNO.out
        · have HYES := As.mk (show op = 5 ∧ ∃ x y, widths = [x, y] ∧ joinOk lc rc x y = true from ⟨ho, x, y, hwd, hok⟩)
          have HJ := As.mk hJ
          have HGE := As.mk (And.intro g1 (And.intro g2 g3))
          have HWD := As.mk hwd
          have HOK := As.mk hok
          clear ho hwd hok g1 g2 g3 hJ
          go_wp2_with fail
          refine (HRN.out w5 HB5.out).mono ?_
          rintro e w6 ⟨hB6, hr⟩
          have HB56 := As.mk hB6
          have HB6 := As.mk (HB4.out.trans ((HB5.out.trans (hB6.mono HB5.out.size)).mono HB4.out.size))
          clear hB6 n0 n1 n2 n3 n4 n5 n6 n7 n8 n9 n10 n11 n12 HRN
          rcases hr with ⟨hn, _⟩ | ⟨base, ub, gb, x', y', at0, at1, B1, B2, d1, d2, ho, hwd, hok, rfl, hb0, hb1, hb2, hop, hr1, hr2⟩
          · exact absurd HYES.out hn
          · have HOP := As.mk hop
            have HRI1 := As.mk hr1
            have HRI2 := As.mk hr2
            have HBS := As.mk (And.intro hb0 (And.intro hb1 hb2))
            have HWD2 := As.mk hwd
            clear ho hwd hok hb0 hb1 hb2 hop hr1 hr2
            obtain ⟨rfl, rfl⟩ : x = x' ∧ y = y' := by
              have h := HWD.out
              rw [HWD2.out] at h
              simpa using h.symm
            obtain ⟨nl, nr, rfl, rfl, hcol⟩ := cols_of HOK.out
            have HCO := As.mk hcol
            have hml : 0 < W0.heap.size := by
              obtain ⟨m, hm⟩ := HG.out
              exact World.block_lt_of_cell? W0 ⟨0, 0, none⟩ hm
            have HML : As (0 < w4.heap.size) := ⟨Nat.lt_of_lt_of_le hml HB4.out.size⟩
            have HV4 := As.mk (RdDD.mv (ok' := Old w4.heap.size) (RdDD.ext HV.out HB4.out) (Stays.widen fun k t hk _ => hk))
            have HG4 := As.mk (HG.out.below HB4.out)
            have HSZ : As (w4.heap.size ≤ base ∧ (w4.heap.size ≤ ub ∧ w4.heap.size ≤ gb ∧ base ≤ gb)) := ⟨by have h1 := HB5.out.size; have h2 := HBS.out; omega⟩
            have HB46 := As.mk (HB5.out.trans (HB56.out.mono HB5.out.size))
            have HBW : As (base ≤ w6.heap.size) := ⟨by
              obtain ⟨⟨cu, h⟩, _⟩ := HOP.out.typed (by simp)
              have h1 := (Array.getElem?_eq_some_iff.1 h).1
              have h2 := HBS.out
              omega⟩
            have HL0 : As (LiveX nl nr lc rc base b bl br ub gb at0 at1 B1 B2 d1 d2 0 w4.heap.size w6) := ⟨⟨_, [], [], [], (JSt.new (n := w4.heap.size) HJ.out HGE.out.1 HGE.out.2.1 HGE.out.2.2).ext HB56.out, HOP.out, JRes.nil lc rc nl nr, (fun x hx => by cases hx), WBag.nil _, WBag.nil _, by simp, by simp, RBag.nil _, by simp, (fun k hk hq => by have h2 := HBS.out; have h3 := hk.2; rcases hq with rfl | rfl <;> omega), (fun k hk => hk.1), HRI1.out, HRI2.out⟩⟩
            clear h20 hml hcol
            go_wp2_with fail
            go_loopg [6, 11, 12, 13, 14, 15, 16] 40 (fun g _ s11 _ _ _ _ _ wr => ∃ i : Nat, i ≤ 40 ∧ 40 - i ≤ g ∧ s11 = .int .i64 i ∧ As (Below w4.heap.size w4 wr ∧ base ≤ wr.heap.size) ∧ As (LiveX nl nr lc rc base b bl br ub gb at0 at1 B1 B2 d1 d2 i w4.heap.size wr ∨ DeadX nl nr lc rc base b bl br ub gb at0 at1 B1 B2 d1 d2 i w4.heap.size wr))
            case atStart => exact ⟨0, by omega, by omega, rfl, ⟨HB46.out, HBW.out⟩, ⟨.inl HL0.out⟩⟩
            case round =>
              obtain ⟨i, hi, hg, rfl, HL, HX⟩ := hrel
              clear HL0
              have HEND := As.mk (fun W (hB : Below w4.heap.size wr W) => HW0B.out.trans ((HB4.out.trans ((HL.out.1.trans hB).mono HB4.out.size)).mono (Nat.le_of_lt hsz)))
              by_cases hlt : i < ds.length
              · have hz1 : (i : Int) < (ds.length : Int) := by omega
                by_cases h40 : i < 40
                · have hz2 : (i : Int) < 40 := by omega
                  obtain ⟨E, hE⟩ : ∃ E, ds[i]? = some E := ⟨_, List.getElem?_eq_getElem hlt⟩
                  obtain ⟨b2, o2, c2', A2', d2', hv2, hb2, hr2, e0⟩ := HV4.out.ds hE
                  injection hv2 with hA _ hcc
                  subst hA hcc
                  have e0 := bc HL.out.1 e0
                  have hrw : RdD wr (Old w4.heap.size) (.slice A2' E.length d2') E := RdD.ext hr2 HL.out.1
                  have HMU := As.mk (lMuch_any (.slice A2' E.length d2') E wr (RdD.mv hrw (Stays.any _ _)))
                  have HBC := As.mk (fun (hm : ∀ d ∈ E, d.length ≤ 40) => both_calls HCO.out HX.out h40 (HG4.out.below HL.out.1) HML.out HSZ.out.1 HSZ.out.2 HL.out.2 E (.slice A2' E.length d2') hrw hm)
                  have HB2L := As.mk hb2
                  clear hr2 hE hrw hb2
                  go_wp2_with fail
                  refine HMU.out.mono ?_
                  rintro e w7 ⟨q, rfl, rfl, hq⟩
                  cases q with
                  | true =>
                    go_wp2_with fail
                    go_ret
                    exact ⟨rfl, HEND.out _ ⟨rfl, rfl, rfl, Nat.le_refl _, fun _ _ => rfl⟩⟩
                  | false =>
                    have HMQ := As.mk (hq rfl).2
                    clear hq
                    go_wp2_with fail
                    refine (HBC.out HMQ.out).mono ?_
                    rintro e w8 ⟨v1, k1, rfl, hSX⟩
                    have e0 := (hSX.1.cell (p := ⟨b2, o2 + i, none⟩) HB2L.out).trans e0
                    have HSX := As.mk hSX
                    clear hSX
                    go_wp2_with fail
                    refine HSX.out.2.mono ?_
                    rintro e w9 ⟨hB9, v2, k2, q, rfl, hq⟩
                    have HB9 := As.mk hB9
                    clear hB9
                    cases q with
                    | false =>
                      clear hq
                      go_wp2_with fail
                      go_ret
                      exact ⟨rfl, HEND.out _ HB9.out⟩
                    | true =>
                      obtain ⟨rfl, dd, hz1', hz2', hst⟩ := hq rfl
                      have HST := As.mk hst
                      have HS3 := As.mk (same3_any v1 v2 dd dd w9 hz1' hz2')
                      have hsz0 : sameZ dd dd = true := (sameZ_eq dd dd).2 rfl
                      clear hq hz1' hz2' hst
                      go_wp2_with fail
                      refine HS3.out.mono ?_
                      rintro e w10 ⟨rfl, m, rfl⟩
                      rw [hsz0]
                      go_wp2_with fail
                      go_roundg (40 - (i + 1))
                      case measure => omega
                      case rel => exact ⟨i + 1, by omega, by omega, by go_num, ⟨(HL.out.1.trans HB9.out).trans ((Ext.drewN (Ext.refl _) _).below.mono (Nat.le_trans HL.out.1.size HB9.out.size)), Nat.le_trans HL.out.2 (Nat.le_trans HB9.out.size (Ext.drewN (Ext.refl w9) m).below.size)⟩, ⟨HST.out.elim (fun h => .inl (h.ext (Ext.drewN (Ext.refl _) _).below)) (fun h => .inr (h.1.ext (Ext.drewN (Ext.refl _) _).below))⟩⟩
                · have hz2 : ¬ (i : Int) < 40 := by omega
                  go_wp2_with fail
                  go_ret
                  exact ⟨rfl, HEND.out _ ⟨rfl, rfl, rfl, Nat.le_refl _, fun _ _ => rfl⟩⟩
              · have hz1 : ¬ (i : Int) < (ds.length : Int) := by omega
                go_wp2_with fail
                go_ret
                exact ⟨rfl, HEND.out _ ⟨rfl, rfl, rfl, Nat.le_refl _, fun _ _ => rfl⟩⟩
  · have h20n : (20 : Int) < (widths.length : Int) := by omega
    clear h20
    go_wp2_with fail
    go_ret
    exact ⟨rfl, HW0B.out.trans (HB2.out.mono (Nat.le_of_lt hsz))⟩
end Go.Proofs.YtflckpfpgpfjlaaGreatDoor
