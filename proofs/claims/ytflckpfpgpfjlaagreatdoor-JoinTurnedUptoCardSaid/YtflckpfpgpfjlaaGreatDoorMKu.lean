/- The walk of JoinTurned. -/
import Derived.Test.YtflckpfpgpfjlaaGreatDoorMKx
import Derived.Test.YtflckpfpgpfjlaaGreatDoorMKw
set_option linter.unusedVariables false
set_option linter.unusedSimpArgs false
namespace Go.Proofs.YtflckpfpgpfjlaaGreatDoor
open Go.RowKit Go.Sort
theorem joinOk_turn {lc rc : List Int} {x y : Int} (h : joinOk lc rc x y = true) : joinOk rc lc y x = true := by
  unfold joinOk joinIn at *
  simp only [Bool.and_eq_true, decide_eq_true_eq] at *
  obtain ⟨⟨⟨⟨h1, h2⟩, h3, h4⟩, ⟨h5, h6⟩, h7⟩, h8⟩ := h
  exact ⟨⟨⟨⟨h3, h4⟩, h1, h2⟩, ⟨h5.symm, h7⟩, h6⟩, by omega⟩
/-- Behind i steps: the bags and the two operators. -/
structure LQ (n : Nat) (W1 wr : World) (lc rc : List Int) (nl nr : Nat) (b bl br d dl dr i : Nat) (s8 s9 : Value) (a z : List GE) : Prop where
  ra : RdZ2 wr n s8 a
  rz : RdZ2 wr n s9 z
  wa : WBag nl a
  wz : WBag nr z
  la : a.length ≤ 40 * i
  lz : z.length ≤ 40 * i
  below : Below n W1 wr
  two : Two n b bl br d dl dr wr lc rc nl nr a z
set_option maxRecDepth 100000 in
set_option maxHeartbeats 4000000 in
theorem lawTurned_walk (op m1 m2 nk : Int) (name : ByteArray) (anti : Bool) (A1 A2 A3 A4 A5 A6 A7 : Option Addr) (c1 c2 l3 c3 l4 c4 l5 c5 l6 c6 l7 c7 : Nat) (lc rc widths : List Int) (ds : List (List (List GE))) (u v : Value) (w : World) (hw : GW w) (h1 : RdI w AnyB (.slice A1 lc.length c1) lc) (h2 : RdI w AnyB (.slice A2 rc.length c2) rc) (hu : RdI w AnyB u widths) (hv : RdDD w AnyB v ds) (hP : NodeC w (PlanAt w 80) [.int .i64 op, .int .i64 m1, .int .i64 m2, .int .i64 nk, .string name, .bool anti, .slice A1 lc.length c1, .slice A2 rc.length c2, .slice A3 l3 c3, .slice A4 l4 c4, .slice A5 l5 c5, .slice A6 l6 c6, .slice A7 l7 c7])
    (haw : ∀ W, GW W → Calls Tryz.prog 8 #[] W fun e w' => e = .returned (.bool true) ∧ Below W.heap.size W w') :
    Calls Tryz.prog 4 #[.agg #[.int .i64 op, .int .i64 m1, .int .i64 m2, .int .i64 nk, .string name, .bool anti, .slice A1 lc.length c1, .slice A2 rc.length c2, .slice A3 l3 c3, .slice A4 l4 c4, .slice A5 l5 c5, .slice A6 l6 c6, .slice A7 l7 c7], u, v] w fun e w' => e = .returned (.bool true) ∧ Below w.heap.size w w' := by
  have mixed := mixed
  obtain ⟨A, c, rfl, _⟩ := hu.shape
  obtain ⟨D, d, rfl, _⟩ := hv.shape
  have hdl := hv.len
  obtain ⟨W0, hW0⟩ : ∃ W0, W0 = w.alloc (.cells #[.int .i64 op, .int .i64 m1, .int .i64 m2, .int .i64 nk, .string name, .bool anti, .slice A1 lc.length c1, .slice A2 rc.length c2, .slice A3 l3 c3, .slice A4 l4 c4, .slice A5 l5 c5, .slice A6 l6 c6, .slice A7 l7 c7] 28) := ⟨_, rfl⟩
  have HND := As.mk (node_all w op m1 m2 nk name anti A1 A2 A3 A4 A5 A6 A7 lc.length c1 rc.length c2 l3 c3 l4 c4 l5 c5 l6 c6 l7 c7 28 W0 hW0)
  have hE0 : Ext w W0 := hW0 ▸ Ext.alloc (Ext.refl w) _
  have hsz : w.heap.size < W0.heap.size := by rw [hW0]; simp
  have HW0B := As.mk hE0.below
  have HAW := As.mk (haw W0 (hw.below hE0.below))
  have HG := As.mk (hw.below hE0.below)
  have H1 := As.mk (h1.ext hE0.below)
  have H2 := As.mk (h2.ext hE0.below)
  have HU := As.mk (hu.ext hE0.below)
  have HV := As.mk (hv.ext hE0.below)
  have HP := As.mk (hP.ext hE0.below fun _ => PlanAt.ext hE0.below)
  clear hw h1 h2 hu hv hP haw hE0
  go_enter Tryz.func4, Tryz.ntmps4
  go_wp2_with fail
  rw [← hW0]
  clear hW0
  refine HAW.out.mono ?_
  rintro e w2 ⟨rfl, hB2⟩
  have HB2 := As.mk hB2
  have HMD := As.mk (lMade_any op m1 m2 nk name anti A1 A2 A3 A4 A5 A6 A7 c1 c2 l3 c3 l4 c4 l5 c5 l6 c6 l7 c7 lc rc widths (.slice A widths.length c) w2 (H1.out.ext hB2) (H2.out.ext hB2) (HU.out.ext hB2) (HP.out.ext hB2 fun _ => PlanAt.ext hB2))
  obtain ⟨n0, n1, n2, n3, n4, n5, n6, n7, n8, n9, n10, n11, n12⟩ := HND.out
  have n0 := bc hB2 n0
  have n1 := bc hB2 n1
  have n2 := bc hB2 n2
  have n3 := bc hB2 n3
  have n4 := bc hB2 n4
  have n5 := bc hB2 n5
  have n6 := bc hB2 n6
  have n7 := bc hB2 n7
  have n8 := bc hB2 n8
  have n9 := bc hB2 n9
  have n10 := bc hB2 n10
  have n11 := bc hB2 n11
  have n12 := bc hB2 n12
  clear hB2
  go_wp2_with fail
  refine HMD.out.mono ?_
  rintro e w3 ⟨hB3, hm⟩
  have HB3 := As.mk (HB2.out.trans (hB3.mono HB2.out.size))
  have hs3 := hB3.size
  have n6 := bc hB3 n6
  have n7 := bc hB3 n7
  clear hB3 n0 n1 n2 n3 n4 n5 n8 n9 n10 n11 n12
  rcases hm with rfl | ⟨b, bl, br, x, y, rfl, rfl, hok, g1, g2, g3, rfl, hJ⟩
  · go_wp2_with fail
    go_ret
    exact ⟨rfl, HW0B.out.trans (HB3.out.mono (Nat.le_of_lt hsz))⟩
  · obtain ⟨nl, nr, rfl, rfl, hcol⟩ := cols_of hok
    have HCO := As.mk hcol
    have HJ := As.mk (JSt.new (n := W0.heap.size) hJ (Nat.le_trans HB2.out.size g1) (Nat.le_trans HB2.out.size g2) (Nat.le_trans HB2.out.size g3))
    have hnl : (nl : Int) ≤ 1024 := by have := hcol.wide; omega
    have hnr : (nr : Int) ≤ 1024 := by have := hcol.wide; omega
    have hok2 : joinOk rc lc (nr : Int) (nl : Int) = true := joinOk_turn hok
    obtain ⟨bw, ow, cw, hvw, _, _, f0⟩ := RdI.val HU.out (j := 0) rfl
    obtain ⟨bw', ow', cw', hvw', _, _, f1⟩ := RdI.val HU.out (j := 1) rfl
    injection hvw with hA _ hcc
    subst hA hcc
    injection hvw' with hA _ hcc
    injection hA with hA
    injection hA with hA1 hA2 _
    subst hA1 hA2 hcc
    have F0 := As.mk f0
    have F1 := As.mk f1
    simp only [Nat.add_zero] at F0
    have f0 := bc HB3.out F0.out
    have f1 := bc HB3.out F1.out
    have HS3 := As.mk (JSt.new (n := W0.heap.size) hJ (Nat.le_trans HB2.out.size g1) (Nat.le_trans HB2.out.size g2) (Nat.le_trans HB2.out.size g3))
    have HN2 := As.mk (jNew_any 5 0 0 0 ⟨#[]⟩ false A2 A1 none none none none none c2 c1 0 0 0 0 0 0 0 0 0 0 rc lc [(nr : Int), (nl : Int)] (.slice (some ⟨w3.heap.size, 0, none⟩) 2 2) (w3.drew.alloc (.cells #[.int .i64 nr, .int .i64 nl] 3)) ((H2.out.ext HB3.out).ext (Ext.alloc (Ext.drew (Ext.refl w3)) _).below) ((H1.out.ext HB3.out).ext (Ext.alloc (Ext.drew (Ext.refl w3)) _).below) (lit_ints2 w3.drew nr nl (by unfold i64; omega) (by unfold i64; omega)))
    have HOK2 := As.mk hok2
    have n6a := (Ext.alloc (Ext.refl w3) (.cells #[.int .i64 nr, .int .i64 nl] 3)).cell n6
    have n7a := (Ext.alloc (Ext.refl w3) (.cells #[.int .i64 nr, .int .i64 nl] 3)).cell n7
    have f0a := (Ext.alloc (Ext.refl w3) (.cells #[.int .i64 nr, .int .i64 nl] 3)).cell f0
    have f1a := (Ext.alloc (Ext.refl w3) (.cells #[.int .i64 nr, .int .i64 nl] 3)).cell f1
    clear hok g1 g2 g3 hJ hcol hok2 HJ
    simp only [List.length_cons, List.length_nil, Nat.zero_add, Nat.reduceAdd] at *
    go_wp2_with fail
    go_region_held3 (fun w' => w'.cell? ⟨w.heap.size, 6, none⟩ = some (.slice A1 lc.length c1) ∧ w'.cell? ⟨w.heap.size, 7, none⟩ = some (.slice A2 rc.length c2) ∧ w'.cell? ⟨bw, ow, none⟩ = some (.int .i64 nl) ∧ w'.cell? ⟨bw, ow + 1, none⟩ = some (.int .i64 nr)) (first | go_keep | exact ⟨n6a, n7a, f0a, f1a⟩ | exact ⟨k6, k7, kf0, kf1⟩) ((go_at_call 16; refine HN2.out.mono ?_; rintro e w4 ⟨hB4, h4⟩; have hB34 := ((Ext.alloc (Ext.drew (Ext.refl w3)) (.cells #[.int .i64 nr, .int .i64 nl] 3)).below.trans (hB4.mono (Ext.alloc (Ext.drew (Ext.refl w3)) _).size)); have k6 := bc hB34 n6; have k7 := bc hB34 n7; have kf0 := bc hB34 f0; have kf1 := bc hB34 f1; obtain ⟨dq, dl, dr, x2, y2, _, hwd2, _, g1, g2, g3, rfl, hJ2⟩ := h4.resolve_left (fun h => h.2 ⟨rfl, _, _, rfl, HOK2.out⟩); obtain ⟨rfl, rfl⟩ : (nr : Int) = x2 ∧ (nl : Int) = y2 := (by simpa using hwd2); have HB34 := As.mk hB34; have hsr := (Ext.alloc (Ext.drew (Ext.refl w3)) (.cells #[.int .i64 nr, .int .i64 nl] 3)).size; have HS4 := As.mk (JSt.new (n := w3.heap.size) hJ2 (Nat.le_trans hsr g1) (Nat.le_trans hsr g2) (Nat.le_trans hsr g3)); clear hB4 h4 hwd2 g1 g2 g3 hJ2 hsr hB34))
    clear k6 k7 kf0 kf1
    have HT4 := As.mk (show Two W0.heap.size b bl br dq dl dr w4 lc rc nl nr [] [] from ⟨_, _, fun k hk => hk.1, fun k hk => Nat.le_trans HB3.out.size hk.1, fun k hk hq => by have := hk.2; have := hq.1; omega, .inl ⟨HS3.out.ext HB34.out, HS4.out, fun x hx => by cases hx⟩⟩)
    have HB4 := As.mk (HB3.out.trans (HB34.out.mono HB3.out.size))
    have HVA := As.mk (lVast_any _ _ (nl : Int) (nr : Int) ds w4 (HU.out.ext HB4.out) (HV.out.ext HB4.out) ⟨by omega, hnl⟩ ⟨by omega, hnr⟩)
    clear HS3 HS4 HN2 HOK2 f0 f1 n6 n7 n6a n7a f0a f1a
    go_wp2_with fail
    refine HVA.out.mono ?_
    intro e w5 hq
    obtain ⟨⟨q, rfl⟩, hE5⟩ := hq
    have HE5 := As.mk hE5
    clear hE5
    cases q with
    | true =>
      go_wp2_with fail
      go_ret
      exact ⟨rfl, HW0B.out.trans ((HB4.out.trans (HE5.out.below.mono HB4.out.size)).mono (Nat.le_of_lt hsz))⟩
    | false =>
      have HVN := As.mk (RdDD.mv (ok' := fun k _ => k < W0.heap.size) HV.out (Stays.widen fun k t hk _ => hk))
      have hE6 := Ext.alloc (Ext.alloc (Ext.refl w5) (.cells #[] 66)) (.cells #[] 66)
      have hB5 := HB4.out.trans (HE5.out.below.mono HB4.out.size)
      have HL0 := As.mk (show LQ W0.heap.size W0 ((w5.alloc (.cells #[] 66)).alloc (.cells #[] 66)) lc rc nl nr b bl br dq dl dr 0 (.slice (some ⟨w5.heap.size, 0, none⟩) 0 0) (.slice (some ⟨w5.heap.size + 1, 0, none⟩) 0 0) [] [] from ⟨RdZ2.none _ _ _, RdZ2.none _ _ _, WBag.nil _, WBag.nil _, Nat.zero_le _, Nat.zero_le _, hB5.trans (hE6.below.mono hB5.size), (HT4.out.ext HE5.out.below).ext hE6.below⟩)
      clear hB5 hE6
      go_wp2_with fail
      go_loopg [10, 11, 12, 13, 14, 15, 16, 17, 18, 19, 20] 40 (fun g s10 s11 s12 _ _ _ _ _ _ _ _ wr => ∃ (i : Nat) (a z : List GE), i ≤ 40 ∧ 40 - i ≤ g ∧ s12 = .int .i64 i ∧ As (LQ W0.heap.size W0 wr lc rc nl nr b bl br dq dl dr i s10 s11 a z))
      case atStart => exact ⟨0, [], [], by omega, by omega, rfl, HL0⟩
      case round =>
        obtain ⟨i, a, z, hi, hg, rfl, HL⟩ := hrel
        clear HL0
        have HBL := As.mk (HW0B.out.trans (HL.out.below.mono (Nat.le_of_lt hsz)))
        by_cases hlt : i < ds.length
        · have hz1 : (i : Int) < (ds.length : Int) := by omega
          by_cases h40 : i < 40
          · have hz2 : (i : Int) < 40 := by omega
            obtain ⟨E, hE⟩ : ∃ E, ds[i]? = some E := ⟨_, List.getElem?_eq_getElem hlt⟩
            obtain ⟨b2, o2, c2', A2', d2, hv2, hb2, hr2, e0⟩ := HVN.out.ds hE
            injection hv2 with hA _ hcc
            subst hA hcc
            have E0 := As.mk e0
            have e0 := bc HL.out.below e0
            by_cases hE2 : E.length = 2
            · obtain ⟨da, dz, rfl⟩ : ∃ da dz, E = [da, dz] := by
                match E, hE2 with
                | [da, dz], _ => exact ⟨da, dz, rfl⟩
              obtain ⟨b3, o3, c3', A3', d3, hv3, hb3, hr3, g0⟩ := RdD.delta hr2 (j := 0) rfl
              obtain ⟨b4, o4, c4', A4', d4, hv4, hb4, hr4, g1⟩ := RdD.delta hr2 (j := 1) rfl
              injection hv3 with hA _ hcc
              subst hA hcc
              injection hv4 with hA _ hcc
              injection hA with hA
              injection hA with hA1 hA2 _
              subst hA1 hA2 hcc
              have G0 := As.mk g0
              have G1 := As.mk g1
              have g0 := bc HL.out.below g0
              have g1 := bc HL.out.below g1
              have f0 := bc HL.out.below F0.out
              have f1 := bc HL.out.below F1.out
              simp only [List.length_cons, List.length_nil, Nat.zero_add, Nat.reduceAdd, Nat.add_zero] at *
              have HR3 := As.mk hr3
              have HR4 := As.mk hr4
              have HDA := As.mk (RdZ.mv hr3 (safe_low (R := fun _ => False) HL.out.below (fun _ h => h.elim)))
              have HDZ := As.mk (RdZ.mv hr4 (safe_low (R := fun _ => False) HL.out.below (fun _ h => h.elim)))
              have HR2 := As.mk hr2
              obtain ⟨A8, c8, rfl, _⟩ := HL.out.ra.shape
              obtain ⟨A9, c9, rfl, _⟩ := HL.out.rz.shape
              have hla := HL.out.la
              have hlz := HL.out.lz
              have hdla := HDA.out.len
              have hdlz := HDZ.out.len
              have HBA := As.mk (fun W (hb : Below wr.heap.size wr W) => lBag_any (.slice A8 a.length c8) (.slice A3' da.length d3) a da (nl : Int) W (RdZ.ext HL.out.ra.any hb) ((HDA.out.mv (Stays.any _ _)).ext hb) ⟨by omega, by omega⟩ (by omega))
              have HBZ := As.mk (fun W (hb : Below wr.heap.size wr W) => lBag_any (.slice A9 z.length c9) (.slice A4' dz.length d4) z dz (nr : Int) W (RdZ.ext HL.out.rz.any hb) ((HDZ.out.mv (Stays.any _ _)).ext hb) ⟨by omega, by omega⟩ (by omega))
              clear hr2 hr3 hr4 hdla hdlz
              go_wp2_with fail
              go_region_held3 (fun w' => w'.cell? ⟨b2, o2 + i, none⟩ = some (.slice (some ⟨b3, o3, none⟩) 2 d2) ∧ w'.cell? ⟨b3, o3, none⟩ = some (.slice A3' da.length d3) ∧ w'.cell? ⟨b3, o3 + 1, none⟩ = some (.slice A4' dz.length d4) ∧ w'.cell? ⟨bw, ow, none⟩ = some (.int .i64 nl) ∧ w'.cell? ⟨bw, ow + 1, none⟩ = some (.int .i64 nr)) (first | go_keep | exact ⟨k0, k1, k2, k3, k4⟩) ((go_at_call 11; refine (HBA.out _ (by first | exact Below.refl _ _ | exact (Ext.drew (Ext.refl _)).below)).mono ?_; rintro e w5 ⟨A5', c5', y1, ok1, rfl, hB5', hr5, hk5⟩; have hB5 : Below wr.heap.size wr w5 := (by first | exact hB5' | exact (Ext.drew (Ext.refl wr)).below.trans hB5'); clear hB5'; have k0 := bc hB5 e0; have k1 := bc hB5 g0; have k2 := bc hB5 g1; have k3 := bc hB5 f0; have k4 := bc hB5 f1))
              have HB5 := As.mk hB5
              have HR5 := As.mk hr5
              have HK5 := As.mk hk5
              have HBZ5 := As.mk (fun W (hb : Below w5.heap.size w5 W) => HBZ.out W (HB5.out.trans (hb.mono HB5.out.size)))
              clear hr5 hk5 e0 g0 g1 f0 f1 HBA HBZ
              go_wp2_with fail
              clear hB5
              go_region_held3 (fun w' => w'.cell? ⟨b2, o2 + i, none⟩ = some (.slice (some ⟨b3, o3, none⟩) 2 d2) ∧ w'.cell? ⟨b3, o3, none⟩ = some (.slice A3' da.length d3) ∧ w'.cell? ⟨b3, o3 + 1, none⟩ = some (.slice A4' dz.length d4) ∧ w'.cell? ⟨bw, ow, none⟩ = some (.int .i64 nl) ∧ w'.cell? ⟨bw, ow + 1, none⟩ = some (.int .i64 nr)) (first | go_keep | exact ⟨e0, e1, e2, e3, e4⟩) ((go_at_call 11; refine (HBZ5.out _ (by first | exact Below.refl _ _ | exact (Ext.drew (Ext.refl _)).below)).mono ?_; rintro e w6 ⟨A6', c6', y2b, ok2, rfl, hB6', hr6, hk6⟩; have hB6 : Below w5.heap.size w5 w6 := (by first | exact hB6' | exact (Ext.drew (Ext.refl w5)).below.trans hB6'); clear hB6'; have e0 := bc hB6 k0; have e1 := bc hB6 k1; have e2 := bc hB6 k2; have e3 := bc hB6 k3; have e4 := bc hB6 k4))
              have HB6 := As.mk (HB5.out.trans (hB6.mono HB5.out.size))
              have HR5 := As.mk (RdZ2.ext HR5.out hB6)
              have HR6 := As.mk hr6
              have HK6 := As.mk hk6
              have hs56 := hB6.size
              have HBL6 := As.mk (HBL.out.trans (HB6.out.mono HBL.out.size))
              clear hr6 hk6 hB6 HBZ5 k0 k1 k2 k3 k4
              cases ok1 with
              | false =>
                go_wp2_with fail
                go_ret
                exact ⟨rfl, HBL6.out⟩
              | true =>
                cases ok2 with
                | false =>
                  go_wp2_with fail
                  go_ret
                  exact ⟨rfl, HBL6.out⟩
                | true =>
                  obtain ⟨p1, p2, _, p4, p5, p6⟩ := HK5.out rfl
                  obtain ⟨q1, q2, _, q4, q5, q6⟩ := HK6.out rfl
                  have BA := As.mk (show BagOk nl a da y1 from ⟨p1, fun x hx => by have := p2 x hx; omega, p4, p5, p6⟩)
                  have BZ := As.mk (show BagOk nr z dz y2b from ⟨q1, fun x hx => by have := q2 x hx; omega, q4, q5, q6⟩)
                  have hy1 : y1.length ≤ 40 * (i + 1) := by have := p5.length; rw [List.length_append] at this; omega
                  have hy2b : y2b.length ≤ 40 * (i + 1) := by have := q5.length; rw [List.length_append] at this; omega
                  clear p1 p2 p4 p5 p6 q1 q2 q4 q5 q6
                  have HB06 := As.mk (HL.out.below.trans (HB6.out.mono HL.out.below.size))
                  have HZA := As.mk (zsound_ok BA.out.sd HDA.out.vals).1
                  have HZZ := As.mk (zsound_ok BZ.out.sd HDZ.out.vals).1
                  have hml : 0 < W0.heap.size := by
                    obtain ⟨m, hm⟩ := HG.out
                    exact World.block_lt_of_cell? W0 ⟨0, 0, none⟩ hm
                  have HML := As.mk hml
                  have HS1 := As.mk (two_left (HL.out.two.ext HB6.out) (HG.out.below HB06.out) HB06.out.size hml (.slice (some ⟨b3, o3, none⟩) 2 d2) (fun R hR => RdD.mv HR2.out (safe_low HB06.out hR)) HCO.out HL.out.wa HL.out.wz BA.out BZ.out HZA.out HZZ.out (by omega) (by omega))
                  clear hml
                  go_wp2_with fail
                  refine HS1.out.mono ?_
                  rintro e w7 ⟨y, k, ⟨A7, c7, rfl, hr7, hB7, R7, hm7⟩, hh7⟩
                  have HB7 := As.mk (HB06.out.trans hB7)
                  have HR7 := As.mk hr7
                  have HM7 := As.mk hm7
                  have HH7 := As.mk hh7
                  have g0 := bc HB7.out G0.out
                  have g1 := bc HB7.out G1.out
                  have e0 := bc HB7.out E0.out
                  have hE7 := Ext.alloc (Ext.drew (Ext.refl w7)) (.cells #[.slice A4' dz.length d4, .slice A3' da.length d3] 35)
                  have hB78 := HB7.out.trans (hE7.below.mono HB7.out.size)
                  have HS2 := As.mk (two_right (HH7.out.ext hE7.below) (HG.out.below hB78) hB78.size HML.out (.slice (some ⟨w7.heap.size, 0, none⟩) 2 2) (fun R hR => lit_d (RdZ.mv HR4.out (safe_low (HB7.out.trans ((Ext.drew (Ext.refl w7)).below.mono HB7.out.size)) hR)) (RdZ.mv HR3.out (safe_low (HB7.out.trans ((Ext.drew (Ext.refl w7)).below.mono HB7.out.size)) hR))) HCO.out HL.out.wa HL.out.wz BA.out BZ.out HZA.out HZZ.out (by omega) (by omega))
                  have HB78 := As.mk hB78
                  have HE7 := As.mk hE7
                  clear hr7 hB7 hm7 hh7 hE7 hB78 HS1
                  have f0 := bc HB7.out F0.out
                  have eA := (Ext.alloc (Ext.refl w7) (.cells #[.slice A4' dz.length d4, .slice A3' da.length d3] 35)).cell e0
                  have gA := (Ext.alloc (Ext.refl w7) (.cells #[.slice A4' dz.length d4, .slice A3' da.length d3] 35)).cell g0
                  have hA := (Ext.alloc (Ext.refl w7) (.cells #[.slice A4' dz.length d4, .slice A3' da.length d3] 35)).cell g1
                  go_wp2_with fail
                  go_region_held3 (fun w' => w'.cell? ⟨b2, o2 + i, none⟩ = some (.slice (some ⟨b3, o3, none⟩) 2 d2) ∧ w'.cell? ⟨b3, o3, none⟩ = some (.slice A3' da.length d3) ∧ w'.cell? ⟨b3, o3 + 1, none⟩ = some (.slice A4' dz.length d4)) (first | go_keep | exact ⟨eA, gA, hA⟩ | exact ⟨eB, gB, hB⟩) ((go_at_call 13; refine HS2.out.mono ?_; rintro e w8 ⟨y2, ⟨A8', c8', rfl, hr8, hB8, R8, hm8⟩, hk, hsame, htwo⟩; have HB8 := As.mk (HB78.out.trans hB8); have eB := bc HB8.out E0.out; have gB := bc HB8.out G0.out; have hB := bc HB8.out G1.out))
                  have f0 := bc HB8.out F0.out
                  have HR8 := As.mk hr8
                  have HM8 := As.mk hm8
                  have HTW := As.mk htwo
                  have HSA := As.mk hsame
                  have hlow8 := HB8.out.size
                  have HR5 := As.mk (((RdZ2.jmut HR5.out HM7.out) |> fun h => RdZ2.ext h HE7.out.below).jmut hm8)
                  have HR6 := As.mk (((RdZ2.jmut HR6.out HM7.out) |> fun h => RdZ2.ext h HE7.out.below).jmut hm8)
                  clear hr8 hm8 htwo hsame hB8 eA gA hA eB gB hB e0 g0 g1
                  have hB68 := HB8.out.size
                  rcases hk with rfl | rfl
                  · obtain ⟨⟨ty1, ty2, ty3⟩, hone⟩ := HSA.out rfl
                    have HONE := As.mk hone
                    have HR7b := As.mk ((RdZ2.ext HR7.out HE7.out.below).jmut HM8.out)
                    have HTU := As.mk (lTurned_any (.slice A7 y.length c7) y nl nr w8 HR7b.out.any ty3 ty1 ty2 HCO.out.wide HR7b.out.len)
                    clear hone ty1 ty2 ty3
                    go_wp2_with fail
                    refine HTU.out.mono ?_
                    rintro e w9 ⟨A9', c9', t, rfl, hmt, hrt, hB9⟩
                    obtain rfl : t = y2 := HONE.out t hmt
                    have HB9 := As.mk hB9
                    have HRT := As.mk hrt
                    have HSAME := As.mk (same3_any (.slice A9' t.length c9') (.slice A8' t.length c8') t t w9 hrt.any (RdZ2.ext HR8.out hB9).any)
                    rw [(sameZ_eq t t).2 rfl] at HSAME
                    clear hmt hrt hB9
                    go_wp2_with fail
                    refine HSAME.out.mono ?_
                    rintro e w10 ⟨rfl, m, rfl⟩
                    have hE10 : Ext w9 (w9.drewN m) := Ext.drewN (Ext.refl _) m
                    have hB9s := HB9.out.size
                    have HLN := As.mk (show LQ W0.heap.size W0 (w9.drewN m) lc rc nl nr b bl br dq dl dr (i + 1) (.slice A5' y1.length c5') (.slice A6' y2b.length c6') y1 y2b from
                      ⟨RdZ2.low ((HR5.out.ext HB9.out).ext hE10.below) HL.out.below.size, RdZ2.low ((HR6.out.ext HB9.out).ext hE10.below) (Nat.le_trans HL.out.below.size HB5.out.size), BA.out.bag HL.out.wa, BZ.out.bag HL.out.wz, hy1, hy2b, (HB8.out.trans (HB9.out.mono hB68)).trans (hE10.below.mono (Nat.le_trans hB68 hB9s)), (HTW.out.ext HB9.out).ext hE10.below⟩)
                    clear hE10
                    go_wp2_with fail
                    go_roundg (40 - (i + 1))
                    case measure => omega
                    case rel => exact ⟨i + 1, y1, y2b, by omega, by omega, by go_num, HLN⟩
                  · have HLN := As.mk (show LQ W0.heap.size W0 w8 lc rc nl nr b bl br dq dl dr (i + 1) (.slice A5' y1.length c5') (.slice A6' y2b.length c6') y1 y2b from
                      ⟨RdZ2.low HR5.out HL.out.below.size, RdZ2.low HR6.out (Nat.le_trans HL.out.below.size HB5.out.size), BA.out.bag HL.out.wa, BZ.out.bag HL.out.wz, hy1, hy2b, HB8.out, HTW.out⟩)
                    go_wp2_with fail
                    go_roundg (40 - (i + 1))
                    case measure => omega
                    case rel => exact ⟨i + 1, y1, y2b, by omega, by omega, by go_num, HLN⟩
            · have h2z : ((E.length : Int) == 2) = false := by simp; omega
              go_wp2_with fail
              go_ret
              exact ⟨rfl, HBL.out⟩
          · have hz2 : ¬ (i : Int) < 40 := by omega
            go_wp2_with fail
            go_ret
            exact ⟨rfl, HBL.out⟩
        · have hz1 : ¬ (i : Int) < (ds.length : Int) := by omega
          go_wp2_with fail
          go_ret
          exact ⟨rfl, HBL.out⟩
end Go.Proofs.YtflckpfpgpfjlaaGreatDoor
