/- The rows of the reference's bags; what a join at work keeps. The walk of JoinHeld. -/
import Derived.Test.YtflckpfpgpfjlaaGreatDoorMOe
import Derived.Test.YtflckpfpgpfjlaaGreatDoorMKx
import Derived.BigQuiet
import Derived.Deep.RegionHeld3
set_option linter.unusedVariables false
set_option linter.unusedSimpArgs false
section
namespace Go.Proofs.YtflckpfpgpfjlaaGreatDoor
open Go.RowKit Go.Sort
/-- How many rows all bags have. -/
def rowsL (bags : List (List GE)) : Nat := (bags.map List.length).sum
theorem rowsL_take {bags : List (List GE)} {i : Nat} {z : List GE} (h : bags[i]? = some z) : rowsL (bags.take (i + 1)) = rowsL (bags.take i) + z.length := by
  rw [List.take_add_one, h]; simp [rowsL]
theorem rowsL_le (bags : List (List GE)) (i : Nat) : rowsL (bags.take i) ≤ rowsL bags := by
  have h : rowsL (bags.take i) + rowsL (bags.drop i) = rowsL bags := by
    unfold rowsL
    rw [← List.sum_append, ← List.map_append, List.take_append_drop]
  omega
set_option maxRecDepth 100000 in
set_option maxHeartbeats 1000000 in
theorem r8Rows_any (base ub gb : Nat) (w : World) (nd : List Value) (ws : List Int) (bags : List (List GE)) (s : List GE) (broken : Int) (h : ROp base ub gb w nd ws bags s broken) (hr : rowsL bags ≤ 4294967296) :
    Calls Tryz.prog 25 #[.pointer (some ⟨ub, 0, none⟩)] w (fun e w' => e = .returned (.int .i64 (rowsL bags)) ∧ w' = w) := by
  have mixed := mixed
  obtain ⟨V, S, G, vc, sc, gc', h⟩ := h
  have HC := h.cells.2.2.1
  have hlen := h.2.1
  have hwl : ws.length ≤ 4294967296 := hlen ▸ h.2.2.2.2.2.1.len
  have H := As.mk h
  clear h
  go_enter Tryz.func25, Tryz.ntmps25
  go_wp2_with fail
  go_loopg [3, 4] ws.length (fun g s3 s4 wr => ∃ i : Nat, i ≤ ws.length ∧ ws.length - i ≤ g ∧ s3 = .int .i64 (rowsL (bags.take i)) ∧ s4 = .int .i64 i ∧ wr = w)
  case atStart => exact ⟨0, by omega, by omega, by simp [rowsL], by go_num, rfl⟩
  case round =>
    obtain ⟨i, hi, hg, rfl, rfl, rfl⟩ := hrel
    by_cases hlt : i < ws.length
    · have hz1 : (i : Int) < (ws.length : Int) := by omega
      obtain ⟨z, hz⟩ : ∃ z, bags[i]? = some z := ⟨_, List.getElem?_eq_getElem (by omega)⟩
      obtain ⟨A, c, _, hb, _, rfl⟩ := H.out.bag hz
      have hle := rowsL_le bags (i + 1)
      have htk := rowsL_take hz
      have hw : IntKind.i64.wrap ((rowsL (bags.take i) : Int) + (z.length : Int)) = ((rowsL (bags.take (i + 1)) : Nat) : Int) := by
        rw [IntKind.wrap_i64]; omega
      clear hle htk hz
      obtain ⟨x, hx⟩ : ∃ x, rowsL (bags.take i) = x := ⟨_, rfl⟩
      obtain ⟨y, hy⟩ : ∃ y, rowsL (bags.take (i + 1)) = y := ⟨_, rfl⟩
      rw [hx, hy] at hw
      rw [hx]
      have HY := As.mk hy
      clear hx hy
      go_wp2_with fail
      go_roundg (ws.length - (i + 1))
      case measure => omega
      case rel => exact ⟨i + 1, by omega, by omega, by rw [HY.out], by go_num, rfl⟩
    · have hz1 : ¬ (i : Int) < (ws.length : Int) := by omega
      have ht : bags.take i = bags := List.take_of_length_le (by omega)
      rw [ht]
      obtain ⟨x, hx⟩ : ∃ x, rowsL bags = x := ⟨_, rfl⟩
      rw [hx]
      have HY := As.mk hx
      clear hx
      go_wp2_with fail
      go_ret
      exact ⟨by rw [HY.out]; rfl, rfl⟩
theorem jHeld_none (w : World) : Calls Tryz.prog 24 #[.pointer none] w fun e w' => e = .returned (.int .i64 0) ∧ w = w' := by
  go_enter Tryz.func24, Tryz.ntmps24
  go_wp2
  go_ret
  exact ⟨rfl, rfl⟩
/-- At work, the join keeps little, and the reference's bags tell how much. -/
theorem live_held {nl nr : Nat} {lc rc : List Int} {base b bl br ub gb : Nat} {at0 at1 : Int} {B1 B2 : Option Addr} {d1 d2 i n : Nat} {W : World} (hL : LiveX nl nr lc rc base b bl br ub gb at0 at1 B1 B2 d1 d2 i n W) (hi : i ≤ 40) :
    ∃ H N : Nat, H ≤ 2 * N + 32 ∧ N ≤ 4000 ∧ Calls Tryz.prog 24 #[.pointer (some ⟨b, 0, none⟩)] W (fun e w' => e = .returned (.int .i64 H) ∧ Ext W w') ∧
      ∀ W', Below W.heap.size W W' → Calls Tryz.prog 25 #[.pointer (some ⟨ub, 0, none⟩)] W' (fun e w' => e = .returned (.int .i64 N) ∧ w' = W') := by
  obtain ⟨R, a, z, s, ⟨SL, SR, hJ, hb1, hb2⟩, hR, _, _, _, _, la, lz, _⟩ := hL
  have h1 := hb1.held
  have h2 := hb2.held
  have hN : rowsL [a, z] = a.length + z.length := by simp [rowsL]
  refine ⟨heldL SL.bs + heldL SR.bs, rowsL [a, z], by omega, by omega, ?_, fun W' hB => r8Rows_any base ub gb W' _ _ _ _ _ (hR.ext hB) (by omega)⟩
  refine (jHeld_any b bl br lc rc _ _ _ SL SR W hJ.at (by omega) (by omega)).mono ?_
  rintro e w' ⟨rfl, hE⟩
  exact ⟨by rw [Int.natCast_add], hE⟩
end Go.Proofs.YtflckpfpgpfjlaaGreatDoor
end
section
namespace Go.Proofs.YtflckpfpgpfjlaaGreatDoor
open Go.RowKit Go.Sort
set_option maxRecDepth 100000 in
set_option maxHeartbeats 2000000 in
theorem lawJHeld_walk (op m1 m2 nk : Int) (name : ByteArray) (anti : Bool) (A1 A2 A3 A4 A5 A6 A7 : Option Addr) (c1 c2 l3 c3 l4 c4 l5 c5 l6 c6 l7 c7 : Nat) (lc rc widths : List Int) (ds : List (List (List GE))) (u v : Value) (w : World) (hw : GW w) (h1 : RdI w AnyB (.slice A1 lc.length c1) lc) (h2 : RdI w AnyB (.slice A2 rc.length c2) rc) (hu : RdI w AnyB u widths) (hv : RdDD w AnyB v ds) (hP : NodeC w (PlanAt w 80) [.int .i64 op, .int .i64 m1, .int .i64 m2, .int .i64 nk, .string name, .bool anti, .slice A1 lc.length c1, .slice A2 rc.length c2, .slice A3 l3 c3, .slice A4 l4 c4, .slice A5 l5 c5, .slice A6 l6 c6, .slice A7 l7 c7])
    (haw : ∀ W, GW W → Calls Tryz.prog 8 #[] W fun e w' => e = .returned (.bool true) ∧ Below W.heap.size W w') :
    Calls Tryz.prog 7 #[.agg #[.int .i64 op, .int .i64 m1, .int .i64 m2, .int .i64 nk, .string name, .bool anti, .slice A1 lc.length c1, .slice A2 rc.length c2, .slice A3 l3 c3, .slice A4 l4 c4, .slice A5 l5 c5, .slice A6 l6 c6, .slice A7 l7 c7], u, v] w fun e w' => e = .returned (.bool true) ∧ Below w.heap.size w w' := by
  have mixed := mixed
  obtain ⟨A, c, rfl, _⟩ := hu.shape
  obtain ⟨D, d, rfl, _⟩ := hv.shape
  have hdl := hv.len
  have hul := hu.len
  obtain ⟨W0, hW0⟩ : ∃ W0, W0 = w.alloc (.cells #[.int .i64 op, .int .i64 m1, .int .i64 m2, .int .i64 nk, .string name, .bool anti, .slice A1 lc.length c1, .slice A2 rc.length c2, .slice A3 l3 c3, .slice A4 l4 c4, .slice A5 l5 c5, .slice A6 l6 c6, .slice A7 l7 c7] 28) := ⟨_, rfl⟩
  have HND := As.mk (node_all w op m1 m2 nk name anti A1 A2 A3 A4 A5 A6 A7 lc.length c1 rc.length c2 l3 c3 l4 c4 l5 c5 l6 c6 l7 c7 28 W0 hW0)
  have hE0 : Ext w W0 := hW0 ▸ Ext.alloc (Ext.refl w) _
  have hsz : w.heap.size < W0.heap.size := by rw [hW0]; simp
  have HW0B := As.mk hE0.below
  have HAW := As.mk (haw W0 (hw.below hE0.below))
  have HG := As.mk (hw.below hE0.below)
  have H1 := As.mk (h1.ext hE0.below)
  have H2 := As.mk (h2.ext hE0.below)
  have HU := As.mk (hu.ext hE0.below)
  have HV := As.mk (hv.ext hE0.below)
  have HP := As.mk (hP.ext hE0.below fun _ => PlanAt.ext hE0.below)
  clear hw h1 h2 hu hv hP haw hE0
  go_enter Tryz.func7, Tryz.ntmps7
  go_wp2_with fail
  rw [← hW0]
  clear hW0
  refine HAW.out.mono ?_
  rintro e w2 ⟨rfl, hB2⟩
  have HB2 := As.mk hB2
  obtain ⟨n0, n1, n2, n3, n4, n5, n6, n7, n8, n9, n10, n11, n12⟩ := HND.out
  have n0 := bc hB2 n0
  have n1 := bc hB2 n1
  have n2 := bc hB2 n2
  have n3 := bc hB2 n3
  have n4 := bc hB2 n4
  have n5 := bc hB2 n5
  have n6 := bc hB2 n6
  have n7 := bc hB2 n7
  have n8 := bc hB2 n8
  have n9 := bc hB2 n9
  have n10 := bc hB2 n10
  have n11 := bc hB2 n11
  have n12 := bc hB2 n12
  clear hB2
  by_cases h20 : widths.length ≤ 20
  · have h20n : ¬ ((20 : Int) < (widths.length : Int)) := by omega
    have HGR := As.mk (r6Great_any _ 200 _ (plan_one (HP.out.ext HB2.out fun _ => PlanAt.ext HB2.out)))
    have HVA := As.mk (fun W (hB : Below w2.heap.size w2 W) => lVast_all (.slice A widths.length c) (.slice D ds.length d) widths ds W ((HU.out.ext HB2.out).ext hB) ((HV.out.ext HB2.out).ext hB))
    go_wp2_with fail
    refine HGR.out.mono ?_
    intro e w3 hq
    obtain ⟨⟨q, rfl⟩, hE3⟩ := hq
    have hB3 : Below w2.heap.size w2 w3 := ((Ext.alloc (Ext.refl w2) _).trans hE3).below
    have HB3 := As.mk hB3
    have n0 := bc hB3 n0
    have n1 := bc hB3 n1
    have n2 := bc hB3 n2
    have n3 := bc hB3 n3
    have n4 := bc hB3 n4
    have n5 := bc hB3 n5
    have n6 := bc hB3 n6
    have n7 := bc hB3 n7
    have n8 := bc hB3 n8
    have n9 := bc hB3 n9
    have n10 := bc hB3 n10
    have n11 := bc hB3 n11
    have n12 := bc hB3 n12
    clear hB3 hE3 HGR
    cases q with
    | true =>
      go_wp2_with fail
      go_ret
      exact ⟨rfl, HW0B.out.trans ((HB2.out.trans (HB3.out.mono HB2.out.size)).mono (Nat.le_of_lt hsz))⟩
    | false =>
      go_wp2_with fail
      refine (HVA.out w3 HB3.out).mono ?_
      intro e w4 hq
      obtain ⟨⟨q, rfl⟩, hE4⟩ := hq
      have hB4 := hE4.below
      have HB4 := As.mk (HB2.out.trans ((HB3.out.trans (hB4.mono HB3.out.size)).mono HB2.out.size))
      have n0 := bc hB4 n0
      have n1 := bc hB4 n1
      have n2 := bc hB4 n2
      have n3 := bc hB4 n3
      have n4 := bc hB4 n4
      have n5 := bc hB4 n5
      have n6 := bc hB4 n6
      have n7 := bc hB4 n7
      have n8 := bc hB4 n8
      have n9 := bc hB4 n9
      have n10 := bc hB4 n10
      have n11 := bc hB4 n11
      have n12 := bc hB4 n12
      clear hB4 hE4 HVA
      cases q with
      | true =>
        go_wp2_with fail
        go_ret
        exact ⟨rfl, HW0B.out.trans (HB4.out.mono (Nat.le_of_lt hsz))⟩
      | false =>
        have HJN := As.mk (jNew_any op m1 m2 nk name anti A1 A2 A3 A4 A5 A6 A7 c1 c2 l3 c3 l4 c4 l5 c5 l6 c6 l7 c7 lc rc widths (.slice A widths.length c) w4 (H1.out.ext HB4.out) (H2.out.ext HB4.out) (HU.out.ext HB4.out))
        have HRN := As.mk (fun W (hB : Below w4.heap.size w4 W) => r9New_any op m1 m2 nk name anti A1 A2 A3 A4 A5 A6 A7 c1 c2 l3 c3 l4 c4 l5 c5 l6 c6 l7 c7 lc rc widths (.slice A widths.length c) W ((H1.out.ext HB4.out).ext hB) ((H2.out.ext HB4.out).ext hB) ((HU.out.ext HB4.out).ext hB))
        go_wp2_with fail
        refine HJN.out.mono ?_
        rintro e w5 ⟨hB5, hj⟩
        have HB5 := As.mk hB5
        have n0 := bc hB5 n0
        have n1 := bc hB5 n1
        have n2 := bc hB5 n2
        have n3 := bc hB5 n3
        have n4 := bc hB5 n4
        have n5 := bc hB5 n5
        have n6 := bc hB5 n6
        have n7 := bc hB5 n7
        have n8 := bc hB5 n8
        have n9 := bc hB5 n9
        have n10 := bc hB5 n10
        have n11 := bc hB5 n11
        have n12 := bc hB5 n12
        clear hB5 HJN
        rcases hj with ⟨rfl, hno⟩ | ⟨b, bl, br, x, y, ho, hwd, hok, g1, g2, g3, rfl, hJ⟩
        · clear hno
          go_wp2_with fail
          refine (HRN.out w5 HB5.out).mono ?_
          rintro e w6 ⟨hB6, hr⟩
          have HB6 := As.mk (HB4.out.trans ((HB5.out.trans (hB6.mono HB5.out.size)).mono HB4.out.size))
          clear hB6 n0 n1 n2 n3 n4 n5 n6 n7 n8 n9 n10 n11 n12 HRN
          have hfin : ∃ (v6 : Value) (k6 : Int), e = .returned (.tuple #[v6, .int .i64 k6]) := by
            rcases hr with ⟨_, rfl⟩ | ⟨_, _, _, x, y, _, _, _, _, _, _, ho, hwd, hok, rfl, _⟩
            · exact ⟨_, _, rfl⟩
            · exact ⟨_, _, rfl⟩
          clear hr
          obtain ⟨v6, k6, rfl⟩ := hfin
          go_wp2_with fail
          refine (jHeld_none _).mono ?_
          rintro e w7 ⟨rfl, rfl⟩
          go_wp2_with fail
          go_ret
          exact ⟨rfl, HW0B.out.trans (HB6.out.mono (Nat.le_of_lt hsz))⟩
        · have HYES := As.mk (show op = 5 ∧ ∃ x y, widths = [x, y] ∧ joinOk lc rc x y = true from ⟨ho, x, y, hwd, hok⟩)
          have HJ := As.mk hJ
          have HGE := As.mk (And.intro g1 (And.intro g2 g3))
          have HWD := As.mk hwd
          have HOK := As.mk hok
          clear ho hwd hok g1 g2 g3 hJ
          go_wp2_with fail
          refine (HRN.out w5 HB5.out).mono ?_
          rintro e w6 ⟨hB6, hr⟩
          have HB56 := As.mk hB6
          have HB6 := As.mk (HB4.out.trans ((HB5.out.trans (hB6.mono HB5.out.size)).mono HB4.out.size))
          clear hB6 n0 n1 n2 n3 n4 n5 n6 n7 n8 n9 n10 n11 n12 HRN
          rcases hr with ⟨hn, _⟩ | ⟨base, ub, gb, x', y', at0, at1, B1, B2, d1, d2, ho, hwd, hok, rfl, hb0, hb1, hb2, hop, hr1, hr2⟩
          · exact absurd HYES.out hn
          · have HOP := As.mk hop
            have HRI1 := As.mk hr1
            have HRI2 := As.mk hr2
            have HBS := As.mk (And.intro hb0 (And.intro hb1 hb2))
            have HWD2 := As.mk hwd
            clear ho hwd hok hb0 hb1 hb2 hop hr1 hr2
            obtain ⟨rfl, rfl⟩ : x = x' ∧ y = y' := by
              have h := HWD.out
              rw [HWD2.out] at h
              simpa using h.symm
            obtain ⟨nl, nr, rfl, rfl, hcol⟩ := cols_of HOK.out
            have HCO := As.mk hcol
            have hml : 0 < W0.heap.size := by
              obtain ⟨m, hm⟩ := HG.out
              exact World.block_lt_of_cell? W0 ⟨0, 0, none⟩ hm
            have HML : As (0 < w4.heap.size) := ⟨Nat.lt_of_lt_of_le hml HB4.out.size⟩
            have HV4 := As.mk (RdDD.mv (ok' := Old w4.heap.size) (RdDD.ext HV.out HB4.out) (Stays.widen fun k t hk _ => hk))
            have HG4 := As.mk (HG.out.below HB4.out)
            have HSZ : As (w4.heap.size ≤ base ∧ (w4.heap.size ≤ ub ∧ w4.heap.size ≤ gb ∧ base ≤ gb)) := ⟨by have h1 := HB5.out.size; have h2 := HBS.out; omega⟩
            have HB46 := As.mk (HB5.out.trans (HB56.out.mono HB5.out.size))
            have HBW : As (base ≤ w6.heap.size) := ⟨by
              obtain ⟨⟨cu, h⟩, _⟩ := HOP.out.typed (by simp)
              have h1 := (Array.getElem?_eq_some_iff.1 h).1
              have h2 := HBS.out
              omega⟩
            have HL0 : As (LiveX nl nr lc rc base b bl br ub gb at0 at1 B1 B2 d1 d2 0 w4.heap.size w6) := ⟨⟨_, [], [], [], (JSt.new (n := w4.heap.size) HJ.out HGE.out.1 HGE.out.2.1 HGE.out.2.2).ext HB56.out, HOP.out, JRes.nil lc rc nl nr, (fun x hx => by cases hx), WBag.nil _, WBag.nil _, by simp, by simp, RBag.nil _, by simp, (fun k hk hq => by have h2 := HBS.out; have h3 := hk.2; rcases hq with rfl | rfl <;> omega), (fun k hk => hk.1), HRI1.out, HRI2.out⟩⟩
            clear h20 hml hcol
            go_wp2_with fail
            go_loopg [6, 11, 12, 13, 14, 15, 16] 40 (fun g _ s11 _ _ _ _ _ wr => ∃ i : Nat, i ≤ 40 ∧ 40 - i ≤ g ∧ s11 = .int .i64 i ∧ As (Below w4.heap.size w4 wr ∧ base ≤ wr.heap.size) ∧ As (LiveX nl nr lc rc base b bl br ub gb at0 at1 B1 B2 d1 d2 i w4.heap.size wr ∨ DeadX nl nr lc rc base b bl br ub gb at0 at1 B1 B2 d1 d2 i w4.heap.size wr))
            case atStart => exact ⟨0, by omega, by omega, rfl, ⟨HB46.out, HBW.out⟩, ⟨.inl HL0.out⟩⟩
            case round =>
              obtain ⟨i, hi, hg, rfl, HL, HX⟩ := hrel
              clear HL0
              have HEND := As.mk (fun W (hB : Below w4.heap.size wr W) => HW0B.out.trans ((HB4.out.trans ((HL.out.1.trans hB).mono HB4.out.size)).mono (Nat.le_of_lt hsz)))
              by_cases hlt : i < ds.length
              · have hz1 : (i : Int) < (ds.length : Int) := by omega
                by_cases h40 : i < 40
                · have hz2 : (i : Int) < 40 := by omega
                  obtain ⟨E, hE⟩ : ∃ E, ds[i]? = some E := ⟨_, List.getElem?_eq_getElem hlt⟩
                  obtain ⟨b2, o2, c2', A2', d2', hv2, hb2, hr2, e0⟩ := HV4.out.ds hE
                  injection hv2 with hA _ hcc
                  subst hA hcc
                  have e0 := bc HL.out.1 e0
                  have hrw : RdD wr (Old w4.heap.size) (.slice A2' E.length d2') E := RdD.ext hr2 HL.out.1
                  have HMU := As.mk (lMuch_any (.slice A2' E.length d2') E wr (RdD.mv hrw (Stays.any _ _)))
                  have HBC := As.mk (fun (hm : ∀ d ∈ E, d.length ≤ 40) => both_calls HCO.out HX.out h40 (HG4.out.below HL.out.1) HML.out HSZ.out.1 HSZ.out.2 HL.out.2 E (.slice A2' E.length d2') hrw hm)
                  have HB2L := As.mk hb2
                  clear hr2 hE hrw hb2
                  go_wp2_with fail
                  refine HMU.out.mono ?_
                  rintro e w7 ⟨q, rfl, rfl, hq⟩
                  cases q with
                  | true =>
                    go_wp2_with fail
                    go_ret
                    exact ⟨rfl, HEND.out _ ⟨rfl, rfl, rfl, Nat.le_refl _, fun _ _ => rfl⟩⟩
                  | false =>
                    have HMQ := As.mk (hq rfl).2
                    clear hq
                    go_wp2_with fail
                    refine (HBC.out HMQ.out).mono ?_
                    rintro e w8 ⟨v1, k1, rfl, hSX⟩
                    have e0 := (hSX.1.cell (p := ⟨b2, o2 + i, none⟩) HB2L.out).trans e0
                    have HSX := As.mk hSX
                    clear hSX
                    go_wp2_with fail
                    refine HSX.out.2.mono ?_
                    rintro e w9 ⟨hB9, v2, k2, q, rfl, hq⟩
                    have HB9 := As.mk hB9
                    clear hB9
                    cases q with
                    | false =>
                      clear hq
                      go_wp2_with fail
                      go_ret
                      exact ⟨rfl, HEND.out _ HB9.out⟩
                    | true =>
                      obtain ⟨rfl, dd, _, _, hst⟩ := hq rfl
                      clear hq
                      by_cases hk : k2 = 0
                      · subst hk
                        have hlive := hst.elim id (fun h => absurd rfl h.2)
                        obtain ⟨H, N, hHN, hN, hc1, hc2⟩ := live_held hlive (by omega)
                        have HLV := As.mk hlive
                        have HC1 := As.mk hc1
                        have HC2 := As.mk hc2
                        have hw1 : IntKind.i64.wrap (2 * (N : Int)) = 2 * (N : Int) := by rw [IntKind.wrap_i64]; omega
                        have hw2 : IntKind.i64.wrap (2 * (N : Int) + 32) = 2 * (N : Int) + 32 := by rw [IntKind.wrap_i64]; omega
                        have hno : ¬ (2 * (N : Int) + 32 < (H : Int)) := by omega
                        clear hst hlive hc1 hc2 hHN hN
                        go_wp2_with fail
                        refine HC1.out.mono ?_
                        rintro e w10 ⟨rfl, hE10⟩
                        have HE10 := As.mk hE10
                        clear hE10
                        go_wp2_with fail
                        refine (HC2.out _ HE10.out.below).mono ?_
                        rintro e w11 ⟨rfl, rfl⟩
                        go_wp2_with fail
                        go_roundg (40 - (i + 1))
                        case measure => omega
                        case rel => exact ⟨i + 1, by omega, by omega, by go_num, ⟨(HL.out.1.trans HB9.out).trans (HE10.out.below.mono (Nat.le_trans HL.out.1.size HB9.out.size)), Nat.le_trans HL.out.2 (Nat.le_trans HB9.out.size HE10.out.size)⟩, ⟨.inl (HLV.out.ext HE10.out.below)⟩⟩
                      · clear hst
                        go_wp2_with fail
                        go_ret
                        exact ⟨rfl, HEND.out _ HB9.out⟩
                · have hz2 : ¬ (i : Int) < 40 := by omega
                  go_wp2_with fail
                  go_ret
                  exact ⟨rfl, HEND.out _ ⟨rfl, rfl, rfl, Nat.le_refl _, fun _ _ => rfl⟩⟩
              · have hz1 : ¬ (i : Int) < (ds.length : Int) := by omega
                go_wp2_with fail
                go_ret
                exact ⟨rfl, HEND.out _ ⟨rfl, rfl, rfl, Nat.le_refl _, fun _ _ => rfl⟩⟩
  · have h20n : (20 : Int) < (widths.length : Int) := by omega
    clear h20
    go_wp2_with fail
    go_ret
    exact ⟨rfl, HW0B.out.trans (HB2.out.mono (Nat.le_of_lt hsz))⟩
end Go.Proofs.YtflckpfpgpfjlaaGreatDoor
end
