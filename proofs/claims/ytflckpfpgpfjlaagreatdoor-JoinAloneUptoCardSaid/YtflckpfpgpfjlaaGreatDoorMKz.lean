/- The walk of JoinAlone. -/
import Derived.Test.YtflckpfpgpfjlaaGreatDoorMKy
import Derived.Deep.RegionHeld3
import Derived.BigQuiet
set_option linter.unusedVariables false
set_option linter.unusedSimpArgs false
namespace Go.Proofs.YtflckpfpgpfjlaaGreatDoor
open Go.RowKit Go.Sort
theorem lit_dd {w : World} {v : Value} {ds : List (List GE)} (h : RdD w AnyB v ds) : RdDD (w.alloc (.cells #[v] 36)) AnyB (.slice (some ⟨w.heap.size, 0, none⟩) 1 1) [ds] := by
  have hb : Below w.heap.size w (w.alloc (.cells #[v] 36)) := (Below.refl _ _).alloc (Nat.le_refl _) _
  have g := RdD.ext h hb
  obtain ⟨_, _, rfl, _⟩ := h.shape
  exact RdL.lit _ _ ((Reps.nil 1 _).snoc (x := ds) ⟨_, rfl, g⟩ rfl) (by simp [Value.oneCell']) (by simp) _ 36 1 rfl (heap_alloc_new _ _) trivial
theorem lit_any {w : World} {v1 v2 : Value} {z1 z2 : List GE} (h1 : RdZ w AnyB v1 z1) (h2 : RdZ w AnyB v2 z2) : RdD (w.alloc (.cells #[v1, v2] 35)) AnyB (.slice (some ⟨w.heap.size, 0, none⟩) 2 2) [z1, z2] :=
  RdD.mv (lit_d (R := fun _ => False) (h1.mv (Stays.mono fun _ _ _ => .inl id)) (h2.mv (Stays.mono fun _ _ _ => .inl id))) (Stays.any _ _)
theorem z2_cells (w : World) (a b : Value) (T : TypeId) (W : World) (hW : W = w.alloc (.cells #[a, b] T)) : W.cell? ⟨w.heap.size, 0, none⟩ = some a ∧ W.cell? ⟨w.heap.size, 1, none⟩ = some b := by
  subst hW
  have h1 : (w.alloc (.cells #[a, b] T)).heap[w.heap.size]? = some (.cells #[a, b] T (0, 0)) := heap_alloc_new w _
  refine ⟨?_, ?_⟩ <;> rw [Lib.cell_of_heap h1] <;> rfl
set_option maxRecDepth 100000 in
set_option maxHeartbeats 4000000 in
theorem lawAlone_walk (op m1 m2 nk : Int) (name : ByteArray) (anti : Bool) (A1 A2 A3 A4 A5 A6 A7 : Option Addr) (c1 c2 l3 c3 l4 c4 l5 c5 l6 c6 l7 c7 : Nat) (lc rc widths : List Int) (ch st : List GE) (u v1 v2 : Value) (w : World) (hw : GW w) (h1 : RdI w AnyB (.slice A1 lc.length c1) lc) (h2 : RdI w AnyB (.slice A2 rc.length c2) rc) (hu : RdI w AnyB u widths) (hst : RdZ w AnyB v1 st) (hch : RdZ w AnyB v2 ch) (hP : NodeC w (PlanAt w 80) [.int .i64 op, .int .i64 m1, .int .i64 m2, .int .i64 nk, .string name, .bool anti, .slice A1 lc.length c1, .slice A2 rc.length c2, .slice A3 l3 c3, .slice A4 l4 c4, .slice A5 l5 c5, .slice A6 l6 c6, .slice A7 l7 c7])
    (haw : ∀ W, GW W → Calls Tryz.prog 8 #[] W fun e w' => e = .returned (.bool true) ∧ Below W.heap.size W w') :
    Calls Tryz.prog 5 #[.agg #[.int .i64 op, .int .i64 m1, .int .i64 m2, .int .i64 nk, .string name, .bool anti, .slice A1 lc.length c1, .slice A2 rc.length c2, .slice A3 l3 c3, .slice A4 l4 c4, .slice A5 l5 c5, .slice A6 l6 c6, .slice A7 l7 c7], u, .agg #[v1, v2]] w fun e w' => e = .returned (.bool true) ∧ Below w.heap.size w w' := by
  have mixed := mixed
  obtain ⟨ie0, hie, hiez⟩ := Option.map_eq_some_iff.1 info_entry
  simp only [Prod.mk.injEq] at hiez
  have HIE := As.mk hie
  have HZE := As.mk hiez.2.1
  clear hie hiez
  obtain ⟨A, c, rfl, _⟩ := hu.shape
  obtain ⟨D1, e1, rfl, _⟩ := hst.shape
  obtain ⟨D2, e2, rfl, _⟩ := hch.shape
  obtain ⟨WN, hWN⟩ : ∃ WN, WN = w.alloc (.cells #[.int .i64 op, .int .i64 m1, .int .i64 m2, .int .i64 nk, .string name, .bool anti, .slice A1 lc.length c1, .slice A2 rc.length c2, .slice A3 l3 c3, .slice A4 l4 c4, .slice A5 l5 c5, .slice A6 l6 c6, .slice A7 l7 c7] 28) := ⟨_, rfl⟩
  obtain ⟨W0, hW0⟩ : ∃ W0, W0 = WN.alloc (.cells #[.slice D1 st.length e1, .slice D2 ch.length e2] 49) := ⟨_, rfl⟩
  have HND := As.mk (node_all w op m1 m2 nk name anti A1 A2 A3 A4 A5 A6 A7 lc.length c1 rc.length c2 l3 c3 l4 c4 l5 c5 l6 c6 l7 c7 28 WN hWN)
  have hE1 : Ext w WN := hWN ▸ Ext.alloc (Ext.refl w) _
  have hE2 : Ext WN W0 := hW0 ▸ Ext.alloc (Ext.refl WN) _
  have hE0 := hE1.trans hE2
  have hs1 : WN.heap.size = w.heap.size + 1 := by rw [hWN]; simp
  have hs2 : W0.heap.size = w.heap.size + 2 := by rw [hW0]; simp [hs1]
  have hsz : w.heap.size < W0.heap.size := by omega
  have HPR := As.mk (z2_cells WN (.slice D1 st.length e1) (.slice D2 ch.length e2) 49 W0 hW0)
  rw [hs1] at HPR
  have HE2 := As.mk hE2.below
  have HW0B := As.mk hE0.below
  have HAW := As.mk (haw W0 (hw.below hE0.below))
  have HG := As.mk (hw.below hE0.below)
  have H1 := As.mk (h1.ext hE0.below)
  have H2 := As.mk (h2.ext hE0.below)
  have HU := As.mk (hu.ext hE0.below)
  have HST := As.mk (hst.ext hE0.below)
  have HCH := As.mk (hch.ext hE0.below)
  have HP := As.mk (hP.ext hE0.below fun _ => PlanAt.ext hE0.below)
  clear hw h1 h2 hu hst hch hP haw hE0 hE1 hE2 hs1 hs2
  go_enter Tryz.func5, Tryz.ntmps5
  go_wp2_with fail
  rw [← hWN, ← hW0]
  clear hW0 hWN
  refine HAW.out.mono ?_
  rintro e w2 ⟨rfl, hB2⟩
  have HB2 := As.mk hB2
  have HMD := As.mk (fun W (hb : Below W0.heap.size W0 W) => lMade_any op m1 m2 nk name anti A1 A2 A3 A4 A5 A6 A7 c1 c2 l3 c3 l4 c4 l5 c5 l6 c6 l7 c7 lc rc widths (.slice A widths.length c) W (H1.out.ext hb) (H2.out.ext hb) (HU.out.ext hb) (HP.out.ext hb fun _ => PlanAt.ext hb))
  obtain ⟨n0, n1, n2, n3, n4, n5, n6, n7, n8, n9, n10, n11, n12⟩ := HND.out
  have hBB := HE2.out.trans (hB2.mono HE2.out.size)
  have n0 := bc hBB n0
  have n1 := bc hBB n1
  have n2 := bc hBB n2
  have n3 := bc hBB n3
  have n4 := bc hBB n4
  have n5 := bc hBB n5
  have n6 := bc hBB n6
  have n7 := bc hBB n7
  have n8 := bc hBB n8
  have n9 := bc hBB n9
  have n10 := bc hBB n10
  have n11 := bc hBB n11
  have n12 := bc hBB n12
  obtain ⟨p0, p1⟩ := HPR.out
  have p0 := bc hB2 p0
  have p1 := bc hB2 p1
  clear hB2 hBB HND HPR HE2
  go_wp2_with fail
  refine (HMD.out w2 HB2.out).mono ?_
  rintro e w3 ⟨hB3, hm⟩
  have HB3 := As.mk (HB2.out.trans (hB3.mono HB2.out.size))
  have hs23 := hB3.size
  have n0 := bc hB3 n0
  have n1 := bc hB3 n1
  have n2 := bc hB3 n2
  have n3 := bc hB3 n3
  have n4 := bc hB3 n4
  have n5 := bc hB3 n5
  have n6 := bc hB3 n6
  have n7 := bc hB3 n7
  have n8 := bc hB3 n8
  have n9 := bc hB3 n9
  have n10 := bc hB3 n10
  have n11 := bc hB3 n11
  have n12 := bc hB3 n12
  clear hB3
  clear p0 p1
  rcases hm with rfl | ⟨b, bl, br, x, y, rfl, rfl, hok, g1, g2, g3, rfl, hJ⟩
  · go_wp2_with fail
    refine (HMD.out w3 HB3.out).mono ?_
    rintro e w4 ⟨hB4, hm⟩
    have HB4 := As.mk (HB3.out.trans (hB4.mono HB3.out.size))
    clear hB4 n0 n1 n2 n3 n4 n5 n6 n7 n8 n9 n10 n11 n12
    rcases hm with rfl | ⟨b, bl, br, x, y, rfl, rfl, hok, g1, g2, g3, rfl, hJ⟩
    · go_wp2_with fail
      go_ret
      exact ⟨rfl, HW0B.out.trans (HB4.out.mono (Nat.le_of_lt hsz))⟩
    · go_wp2_with fail
      go_ret
      exact ⟨rfl, HW0B.out.trans (HB4.out.mono (Nat.le_of_lt hsz))⟩
  · obtain ⟨nl, nr, rfl, rfl, hcol⟩ := cols_of hok
    have HCO := As.mk hcol
    have hnl : (nl : Int) ≤ 1024 := by have := hcol.wide; omega
    have hnr : (nr : Int) ≤ 1024 := by have := hcol.wide; omega
    have HJ1 := As.mk hJ
    have HJB := As.mk (show W0.heap.size ≤ b ∧ W0.heap.size ≤ bl ∧ W0.heap.size ≤ br from ⟨Nat.le_trans HB2.out.size g1, Nat.le_trans HB2.out.size g2, Nat.le_trans HB2.out.size g3⟩)
    clear hok g1 g2 g3 hJ hcol
    go_wp2_with fail
    refine (HMD.out w3 HB3.out).mono ?_
    rintro e w4 ⟨hB4, hm⟩
    have HB34 := As.mk hB4
    have HB4 := As.mk (HB3.out.trans (hB4.mono HB3.out.size))
    clear hB4 n0 n1 n2 n3 n4 n5 n6 n7 n8 n9 n10 n11 n12
    rcases hm with rfl | ⟨d, dl, dr, x, y, _, hxy, _, g1, g2, g3, rfl, hJ⟩
    · go_wp2_with fail
      go_ret
      exact ⟨rfl, HW0B.out.trans (HB4.out.mono (Nat.le_of_lt hsz))⟩
    · obtain ⟨rfl, rfl⟩ : (nl : Int) = x ∧ (nr : Int) = y := by simpa using hxy
      have HD := As.mk (Duo.new HJ1.out HJB.out.1 HJB.out.2.1 HJB.out.2.2 HB34.out hJ g1 g2 g3 HB3.out.size)
      clear hxy g1 g2 g3 hJ HJ1 HJB HMD
      go_wp2_with fail
      have h5 : (w4.alloc (.cells #[.slice D2 ch.length e2, .slice D1 st.length e1] 35)).heap.size = w4.heap.size + 1 := by simp
      have hdd := lit_dd (lit_any (HCH.out.ext HB4.out) (HST.out.ext HB4.out))
      rw [h5] at hdd
      have hE5 := Ext.alloc (Ext.alloc (Ext.refl w4) (.cells #[.slice D2 ch.length e2, .slice D1 st.length e1] 35)) (.cells #[.slice (some ⟨w4.heap.size, 0, none⟩) 2 2] 36)
      have HVA := lVast_any (.slice A 2 c) _ (nl : Int) (nr : Int) [[ch, st]] _ ((HU.out.ext HB4.out).ext hE5.below) hdd ⟨by omega, hnl⟩ ⟨by omega, hnr⟩
      clear hdd h5
      refine HVA.mono ?_
      intro e w5 hq
      obtain ⟨⟨q, rfl⟩, hE6⟩ := hq
      have HB45 := As.mk (hE5.trans hE6).below
      have HB5 := As.mk (HB4.out.trans (HB45.out.mono HB4.out.size))
      have HD5 := As.mk (HD.out.ext HB45.out)
      clear hE5 hE6 HVA HD HB34
      cases q with
      | true =>
        go_wp2_with fail
        go_ret
        exact ⟨rfl, HW0B.out.trans (HB5.out.mono (Nat.le_of_lt hsz))⟩
      | false =>
        obtain ⟨bw, ow, cw, hvw, _, _, f0⟩ := RdI.val HU.out (j := 0) rfl
        obtain ⟨bw', ow', cw', hvw', _, _, f1⟩ := RdI.val HU.out (j := 1) rfl
        injection hvw with hA _ hcc
        subst hA hcc
        injection hvw' with hA _ hcc
        injection hA with hA
        injection hA with hA1 hA2 _
        subst hA1 hA2 hcc
        have F0 := As.mk f0
        simp only [Nat.add_zero] at F0
        have f0 := bc HB5.out F0.out
        have f1 := bc HB5.out f1
        simp only [List.length_cons, List.length_nil, Nat.zero_add, Nat.reduceAdd] at *
        have HBA := lBag_any (.slice none 0 0) (.slice D1 st.length e1) [] st (nr : Int) w5 (RdL.nil _ _ _ _) (HST.out.ext HB5.out) ⟨by omega, by omega⟩ (by simp)
        go_wp2_with fail
        refine HBA.mono ?_
        rintro e w6 ⟨A5, c5, y1, ok1, rfl, hB6, hr6, hk6⟩
        have HB6 := As.mk (HB5.out.trans (hB6.mono HB5.out.size))
        have f0 := bc hB6 f0
        have HD6 := As.mk (HD5.out.ext hB6)
        have HK6 := As.mk hk6
        clear HBA hB6 hr6 hk6 f1 HD5
        have HBA := lBag_any (.slice none 0 0) (.slice D2 ch.length e2) [] ch (nl : Int) w6 (RdL.nil _ _ _ _) (HCH.out.ext HB6.out) ⟨by omega, by omega⟩ (by simp)
        go_wp2_with fail
        refine HBA.mono ?_
        rintro e w7 ⟨A7', c7', y2, ok2, rfl, hB7, hr7, hk7⟩
        have HB7 := As.mk (HB6.out.trans (hB7.mono HB6.out.size))
        have HD7 := As.mk (HD6.out.ext hB7)
        have HK7 := As.mk hk7
        clear HBA hB7 hr7 hk7 f0 HD6
        cases ok1 with
        | false =>
          go_wp2_with fail
          go_ret
          exact ⟨rfl, HW0B.out.trans (HB7.out.mono (Nat.le_of_lt hsz))⟩
        | true =>
          cases ok2 with
          | false =>
            go_wp2_with fail
            go_ret
            exact ⟨rfl, HW0B.out.trans (HB7.out.mono (Nat.le_of_lt hsz))⟩
          | true =>
            obtain ⟨p1, p2, _, p4, p5, p6⟩ := HK6.out rfl
            obtain ⟨q1, q2, _, q4, q5, q6⟩ := HK7.out rfl
            have WS := As.mk (bag_self (show BagOk nr [] st y1 from ⟨p1, fun x hx => by have := p2 x hx; omega, p4, p5, p6⟩) (zsound_ok p4 HST.out.vals).1)
            have WC := As.mk (bag_self (show BagOk nl [] ch y2 from ⟨q1, fun x hx => by have := q2 x hx; omega, q4, q5, q6⟩) (zsound_ok q4 HCH.out.vals).1)
            have SS := As.mk p4
            have SC := As.mk q4
            have LS := As.mk p1
            have LC := As.mk q1
            clear p1 p2 p4 p5 p6 q1 q2 q4 q5 q6 HK6 HK7
            have HCO1 := HCO.out.wide
            have hml : 0 < W0.heap.size := by
              obtain ⟨m, hm⟩ := HG.out
              exact World.block_lt_of_cell? W0 ⟨0, 0, none⟩ hm
            have HML := As.mk hml
            have HSN := As.mk (RdZ.mv (ok' := fun k _ => k < W0.heap.size) HST.out (Stays.widen fun k t hk _ => hk))
            have HCN := As.mk (RdZ.mv (ok' := fun k _ => k < W0.heap.size) HCH.out (Stays.widen fun k t hk _ => hk))
            have HCP := lCopied_any (.slice D1 st.length e1) st w7 (HST.out.ext HB7.out) (fun x hx => by rw [WS.out.len x hx]; omega)
            clear hml
            go_wp2_with fail
            refine HCP.mono ?_
            rintro e w8 ⟨A8, c8, rfl, hr8, hB8⟩
            have hB78 := hB8.size
            have HB8 := As.mk (HB7.out.trans (hB8.mono HB7.out.size))
            have HD8 := As.mk (HD7.out.free hB8)
            have HR8 := As.mk hr8
            have hE9 := Ext.alloc (Ext.refl w8) (.cells #[.slice none 0 0, .slice A8 st.length c8] 35)
            have HB9 := As.mk (HB8.out.trans (hE9.below.mono HB8.out.size))
            have HS := (HD8.out.ext hE9.below).first (HG.out.below HB9.out) HB9.out.size HML.out (.slice (some ⟨w8.heap.size, 0, none⟩) 2 2) (fun R hR => lit_d (RdL.nil _ _ _ _) (RdZ.mv hr8.both (Safe.fresh (by decide) (by decide) (by decide) w8))) HCO.out WS.out SS.out LS.out
            clear hr8 hB8 HD7 HCP
            go_wp2_with fail
            refine HS.mono ?_
            rintro e w9 ⟨A9, c9, rfl, hB9', hM9, hD9⟩
            obtain ⟨R9, hM9⟩ := hM9
            have HB10 := As.mk (HB9.out.trans hB9')
            have HR9 := As.mk ((HR8.out.ext hE9.below).jmut hM9)
            have HC9 := As.mk ((HR8.out.cap.ext hE9.below).jmut hM9)
            have hE10 := Ext.alloc (Ext.refl w9) (.cells #[.slice none 0 0, .slice D1 st.length e1] 35)
            have HB11 := As.mk (HB10.out.trans (hE10.below.mono HB10.out.size))
            have HS := (hD9.swap.ext hE10.below).first (HG.out.below HB11.out) HB11.out.size HML.out (.slice (some ⟨w9.heap.size, 0, none⟩) 2 2) (fun R hR => lit_d (RdL.nil _ _ _ _) (RdZ.mv HSN.out (safe_low HB10.out hR))) HCO.out WS.out SS.out LS.out
            clear hB9' hM9 hD9 hE9 HD8
            go_wp2_with fail
            refine HS.mono ?_
            rintro e w10 ⟨A10, c10, rfl, hB10', hM10, hD10⟩
            obtain ⟨R10, hM10⟩ := hM10
            have HB12 := As.mk (HB11.out.trans hB10')
            have HR10 := As.mk ((HR9.out.ext hE10.below).jmut hM10)
            have HC10 := As.mk ((HC9.out.ext hE10.below).jmut hM10)
            have HD10 := As.mk hD10.swap
            have HSAME := As.mk (same3_any (.slice A8 st.length c8) (.slice D1 st.length e1) st st w10 HR10.out.any (HST.out.ext HB12.out))
            rw [(sameZ_eq st st).2 rfl] at HSAME
            clear hB10' hM10 hD10 hE10 HS HR9 HC9
            go_wp2_with fail
            refine HSAME.out.mono ?_
            rintro e w11 ⟨rfl, m, rfl⟩
            have hE11 : Ext w10 (w10.drewN m) := Ext.drewN (Ext.refl _) m
            have HB13 := As.mk (HB12.out.trans (hE11.below.mono HB12.out.size))
            have HD11 := As.mk (HD10.out.ext hE11.below)
            have HSP := spoil3_any (.slice A8 st.length c8) st w7.heap.size w8.heap.size (w10.drewN m) (HC10.out.ext hE11.below)
            generalize w10.drewN m = w11 at *
            clear hE11 HSAME HC10 HR10 HD10
            go_wp2_with fail
            refine HSP.mono ?_
            rintro e w12 ⟨rfl, hW⟩
            have HB14 := As.mk (HB13.out.trans (hW.below (B := W0.heap.size) (fun k hk => Nat.le_trans HB7.out.size hk.1) HB13.out.size))
            have HD12 := As.mk (HD11.out.wrote hW fun k h1 h2 => .inr ⟨h1, h2⟩)
            clear hW HSP HD11
            have hE12 := Ext.alloc (Ext.refl w12) (.cells #[.slice D2 ch.length e2, .slice none 0 0] 35)
            have HB15 := As.mk (HB14.out.trans (hE12.below.mono HB14.out.size))
            have HS := (HD12.out.ext hE12.below).change (HG.out.below HB15.out) HB15.out.size HML.out (.slice (some ⟨w12.heap.size, 0, none⟩) 2 2) (fun R hR => lit_d (RdZ.mv HCN.out (safe_low HB14.out hR)) (RdL.nil _ _ _ _)) HCO.out WS.out (WBag.nil nl) WC.out (fun r => by rw [zw_nil, Int.zero_add]; exact (WC.out.at r).2) (fun p q _ _ _ _ _ => by rw [zw_nil, Int.zero_mul]; decide) SC.out LS.out (by simp) LC.out
            clear hE12 HD12
            go_wp2_with fail
            refine HS.mono ?_
            rintro e w13 ⟨A13, c13, yw, kw, mw, aw, rfl, hp⟩
            have HPW := As.mk hp
            have HBW := As.mk (HB15.out.trans hp.below)
            clear hp HS
            obtain ⟨h, hh⟩ : ∃ h : Nat, h = ch.length / 2 := ⟨_, rfl⟩
            have hhl : h ≤ ch.length := by omega
            have hcl := LC.out
            have hq : wrap64 ((ch.length : Int) / 2) = (h : Int) := by unfold wrap64; omega
            obtain ⟨hup, hru⟩ := RdL.upto Tryz.underlying35 HIE.out HZE.out HCN.out h hhl .i64
            obtain ⟨AD, hfr, hrd⟩ := RdL.from Tryz.underlying35 HIE.out HZE.out HCN.out h hhl .i64
            have HRU := As.mk hru
            have HRD := As.mk hrd
            have HH := As.mk hhl
            clear hru hrd hhl hcl hh
            have WT := As.mk (part_at WC.out (List.take_sublist h ch)).1
            have WD := As.mk (part_at WC.out (List.drop_sublist h ch)).1
            have LT : As ((ch.take h).length ≤ 40) := ⟨by rw [List.length_take]; have := LC.out; omega⟩
            have LD : As ((ch.drop h).length ≤ 40) := ⟨by rw [List.length_drop]; have := LC.out; omega⟩
            have ST := As.mk (zok_sound WT.out.ok WT.out.fair)
            have SD := As.mk (zok_sound WD.out.ok WD.out.fair)
            obtain ⟨RW, hMW⟩ := HPW.out.jm
            have hE13 := Ext.alloc (Ext.refl w13) (.cells #[.slice D2 h e2, .slice none 0 0] 35)
            have HB16 := As.mk (HBW.out.trans (hE13.below.mono HBW.out.size))
            have HS := (HPW.out.duo.swap.ext hE13.below).change (HG.out.below HB16.out) HB16.out.size HML.out (.slice (some ⟨w13.heap.size, 0, none⟩) 2 2) (fun R hR => lit_d (RdZ.mv HRU.out (safe_low HBW.out hR)) (RdL.nil _ _ _ _)) HCO.out WS.out (WBag.nil nl) WT.out (fun r => by rw [zw_nil, Int.zero_add]; exact (WT.out.at r).2) (fun p q _ _ _ _ _ => by rw [zw_nil, Int.zero_mul]; decide) ST.out LS.out (by simp) LT.out
            have HW2 := As.mk (HPW.out.r2.ext hE13.below)
            have HW3 := As.mk (HPW.out.r3.ext hE13.below)
            clear hE13
            go_wp2_with fail
            refine HS.mono ?_
            rintro e w14 ⟨A14, c14, yc, kc, mc, ac, rfl, hp⟩
            have HPC := As.mk hp
            have HBC := As.mk (HB16.out.trans hp.below)
            obtain ⟨RC, hMC⟩ := hp.jm
            have HW2 := As.mk (HW2.out.jmut hMC)
            have HW3 := As.mk (HW3.out.jmut hMC)
            clear hp HS hMC hMW
            rcases HPC.out.out with ⟨rfl, hv1, hdel1, hl1⟩ | ⟨rfl, rfl, hv1⟩
            · obtain rfl : ac = ch.take h := zsum_nil HPC.out.sum HPC.out.duo.oks.1.1 WT.out.ok
              have HDC := As.mk hdel1
              have HV1 := As.mk hv1
              have hE14 := Ext.alloc (Ext.refl w14) (.cells #[.slice AD (ch.length - h) (e2 - h), .slice none 0 0] 35)
              have HB17 := As.mk (HBC.out.trans (hE14.below.mono HBC.out.size))
              have HS := (HPC.out.duo.ext hE14.below).change (HG.out.below HB17.out) HB17.out.size HML.out (.slice (some ⟨w14.heap.size, 0, none⟩) 2 2) (fun R hR => lit_d (RdZ.mv HRD.out (safe_low HBC.out hR)) (RdL.nil _ _ _ _)) HCO.out WS.out WT.out WD.out (fun r => by rw [← zw_take]; exact (WC.out.at r).2) (old_of hv1) SD.out LS.out LT.out LD.out
              have HW2 := As.mk (HW2.out.ext hE14.below)
              have HW3 := As.mk (HW3.out.ext hE14.below)
              have HC2 := As.mk (HPC.out.r2.ext hE14.below)
              clear hE14 hdel1 hv1
              go_wp2_with fail
              refine HS.mono ?_
              rintro e w15 ⟨A15, c15, yd, kd, md, ad, rfl, hp⟩
              have HPD := As.mk hp
              have HBD := As.mk (HB17.out.trans hp.below)
              obtain ⟨RD, hMD⟩ := hp.jm
              have HW2d := As.mk (HW2.out.jmut hMD)
              have HW3d := As.mk (HW3.out.jmut hMD)
              have HC2d := As.mk (HC2.out.jmut hMD)
              clear hp HS hMD HC2
              rcases HPW.out.out with ⟨rfl, hv0, hdel0, hl0⟩ | ⟨rfl, rfl, hv0⟩
              · rcases HPD.out.out with ⟨rfl, hv2, hdel2, hl2⟩ | ⟨rfl, rfl, hv2⟩
                · obtain rfl : ch = aw := (zsum_nil HPW.out.sum HPW.out.duo.oks.1.1 WC.out.ok).symm
                  have HV0 := As.mk hv0
                  obtain ⟨hov, hmd⟩ := HDC.out.halves hdel2 hdel0 (zw_take ch h)
                  have HMD := As.mk hmd
                  have HADD := As.mk ((add_any (.slice A14 yc.length c14) (.slice A15 yd.length c15) yc yd w15 HC2d.out.any HPD.out.r2.any (by omega)).mono fun e w' h => h.ok (zok_sound HDC.out.ok HDC.out.fz) (zok_sound hdel2.ok hdel2.fz) hov)
                  have HD15 := As.mk HPD.out.duo.swap
                  clear hdel0 hdel2 hov hmd hv0 hv2 hl0 hl1 hl2 HPC
                  go_wp2_with fail
                  refine HADD.out.mono ?_
                  rintro e w16 ⟨A16, c16, s16, rfl, hm16, hr16, hB16⟩
                  obtain rfl : s16 = yw := HMD.out s16 hm16
                  have HB18 := As.mk (HBD.out.trans (hB16.mono HBD.out.size))
                  have HSAME := As.mk (same3_any (.slice A16 s16.length c16) (.slice A13 s16.length c13) s16 s16 w16 hr16.any (HW2d.out.ext hB16).any)
                  rw [(sameZ_eq s16 s16).2 rfl] at HSAME
                  have HD16 := As.mk (HD15.out.ext hB16)
                  have HW3e := As.mk (HW3d.out.ext hB16)
                  clear hm16 hr16 hB16 HADD HMD HD15 HW2d HW3d HC2d
                  go_wp2_with fail
                  refine HSAME.out.mono ?_
                  rintro e w17 ⟨rfl, m, rfl⟩
                  have hE17 : Ext w16 (w16.drewN m) := Ext.drewN (Ext.refl _) m
                  have HB19 := As.mk (HB18.out.trans (hE17.below.mono HB18.out.size))
                  have HD17 := As.mk (HD16.out.ext hE17.below)
                  have HSP := spoil3_any (.slice A13 s16.length c13) s16 mw w13.heap.size (w16.drewN m) (HW3e.out.ext hE17.below)
                  generalize w16.drewN m = w17 at *
                  clear hE17 HSAME HW3e HD16
                  go_wp2_with fail
                  refine HSP.mono ?_
                  rintro e w18 ⟨rfl, hW⟩
                  have hmw : W0.heap.size ≤ mw := Nat.le_trans HB15.out.size HPW.out.m1
                  have HB20 := As.mk (HB19.out.trans (hW.below (B := W0.heap.size) (fun k hk => Nat.le_trans hmw hk.1) HB19.out.size))
                  have HD18 := As.mk (HD17.out.wrote hW fun k h1 h2 => .inl (.inl (.inr ⟨h1, h2⟩)))
                  clear hW HSP HD17 hmw
                  have hE18 := Ext.alloc (Ext.refl w18) (.cells #[.slice none 0 0, .slice none 0 0] 35)
                  have HB21 := As.mk (HB20.out.trans (hE18.below.mono HB20.out.size))
                  have HS := (HD18.out.ext hE18.below).again (HG.out.below HB21.out) HB21.out.size HML.out (.slice (some ⟨w18.heap.size, 0, none⟩) 2 2) (fun R hR => lit_d (RdL.nil _ _ _ _) (RdL.nil _ _ _ _)) HCO.out WS.out WC.out HV0.out LS.out LC.out
                  clear hE18 HD18
                  go_wp2_with fail
                  refine HS.mono ?_
                  rintro e w19 ⟨⟨A19, c19, rfl⟩, hB⟩
                  have HB22 := As.mk (HB21.out.trans hB)
                  clear hB HS
                  go_wp2_with fail
                  go_ret
                  exact ⟨rfl, HW0B.out.trans (HB22.out.mono (Nat.le_of_lt hsz))⟩
                · exact absurd ((vast_halves h).1 hv2) hv0
              · rcases HPD.out.out with ⟨rfl, hv2, hdel2, hl2⟩ | ⟨rfl, rfl, hv2⟩
                · exact absurd ((vast_halves h).2 hv0) hv2
                · go_wp2_with fail
                  go_ret
                  exact ⟨rfl, HW0B.out.trans (HBD.out.mono (Nat.le_of_lt hsz))⟩
            · rcases HPW.out.out with ⟨rfl, hv0, hdel0, hl0⟩ | ⟨rfl, rfl, hv0⟩
              · exact absurd (vast_half WC.out hv1) hv0
              · go_wp2_with fail
                go_ret
                exact ⟨rfl, HW0B.out.trans (HBC.out.mono (Nat.le_of_lt hsz))⟩
end Go.Proofs.YtflckpfpgpfjlaaGreatDoor
