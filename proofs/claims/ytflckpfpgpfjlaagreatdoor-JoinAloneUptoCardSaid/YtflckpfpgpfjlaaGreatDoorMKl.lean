/- The walk of JoinPairs. -/
import Derived.Test.YtflckpfpgpfjlaaGreatDoorMJt
import Derived.Test.YtflckpfpgpfjlaaGreatDoorMKm
import Derived.Test.YtflckpfpgpfjlaaGreatDoorMOpn
set_option linter.unusedVariables false
set_option linter.unusedSimpArgs false
namespace Go.Proofs.YtflckpfpgpfjlaaGreatDoor
open Go.RowKit Go.Sort
theorem JMut.low {R : Nat → Prop} {w w' : World} {n : Nat} (h : JMut R w w') (hr : ∀ k, R k → n ≤ k) (hn : n ≤ w.heap.size) : Below n w w' :=
  ⟨h.os, h.tape, h.output, h.size, fun k hk => by
    have hlt : k < w.heap.size := by omega
    rw [h.block k _ (Array.getElem?_eq_getElem hlt) (.inl fun hq => by have := hr k hq; omega), Array.getElem?_eq_getElem hlt]⟩
theorem RdZ2.jmut {R : Nat → Prop} {w w' : World} {lo : Nat} {v : Value} {z : List GE} (h : RdZ2 w lo v z) (hm : JMut R w w') : RdZ2 w' lo v z := by
  have hok : ∀ T : TypeId, T ≠ 133 → T ≠ 136 → T ≠ 74 → ∀ k t, Fresh lo [T] k t → t ≠ 133 ∧ t ≠ 136 ∧ t ≠ 74 ∧ Fresh lo [T] k t := fun T a b c k t h => by
    have e : t = T := by have := h.2; simpa using this
    exact ⟨e ▸ a, e ▸ b, e ▸ c, h⟩
  exact RdL.move h (fun _ _ e => e.mv (hm.stays (hok _ (by decide) (by decide) (by decide)))) (hm.stays (hok _ (by decide) (by decide) (by decide)))
theorem safe_low {R : Nat → Prop} {n : Nat} {w w' : World} (hb : Below n w w') (hr : ∀ k, R k → n ≤ k) : Stays w w' (fun k _ => k < n) (Safe R) := fun k t cells fr ho hh => ⟨⟨.inl fun h => by have := hr k h; have := ho.1; simp only at this; omega, .inr (.inl fun h => by have := hr k h; have := ho.1; simp only at this; omega)⟩, by rw [hb.block k ho.1]; exact hh⟩
/-- Behind i steps: the bags, their pairs, the operator. -/
structure LP (n : Nat) (W1 wr : World) (lc rc : List Int) (nl nr : Nat) (b bl br i : Nat) (s8 s9 s10 : Value) (a z s : List GE) : Prop where
  ra : RdZ2 wr n s8 a
  rz : RdZ2 wr n s9 z
  rs : RdZ2 wr n s10 s
  wa : WBag nl a
  wz : WBag nr z
  sm : Small lc rc a z
  res : JRes lc rc nl nr a z s
  la : a.length ≤ 40 * i
  lz : z.length ≤ 40 * i
  ls : s.length ≤ 4000
  below : Below n W1 wr
  st : ∃ R : Nat → Prop, (∀ k, R k → n ≤ k) ∧ JSt R b bl br wr lc rc nl nr 0 a z
theorem RdZ2.none (w : World) (n : Nat) (A : Option Addr) : RdZ2 w n (.slice A 0 0) [] := ⟨A, 0, rfl, Nat.le_refl _, by decide, fun h => absurd rfl h⟩
theorem LP.start {n b bl br : Nat} {W1 wr : World} {lc rc : List Int} {nl nr : Nat} (A B C : Option Addr) (hb : Below n W1 wr) (R : Nat → Prop) (hr : ∀ k, R k → n ≤ k) (hs : JSt R b bl br wr lc rc nl nr 0 [] []) : LP n W1 wr lc rc nl nr b bl br 0 (.slice A 0 0) (.slice B 0 0) (.slice C 0 0) [] [] [] where
  ra := RdZ2.none _ _ _
  rz := RdZ2.none _ _ _
  rs := RdZ2.none _ _ _
  wa := WBag.nil _
  wz := WBag.nil _
  sm := fun x hx => by cases hx
  res := JRes.nil _ _ _ _
  la := Nat.zero_le _
  lz := Nat.zero_le _
  ls := Nat.zero_le _
  below := hb
  st := ⟨R, hr, hs⟩
theorem AddPost.ok {a b : List GE} {w w' : World} {e : Ending} (h : AddPost a b w e w') (ha : zsound a = true) (hb : zsound b = true) (ho : overL (a ++ b) = false) : ∃ (A : Option Addr) (c : Nat) (y : List GE), e = .returned (.tuple #[.slice A y.length c, .int .i64 0]) ∧ Made (a ++ b) y ∧ RdZ2 w' w.heap.size (.slice A y.length c) y ∧ Below w.heap.size w w' := by
  obtain ⟨hB, h⟩ := h
  rw [if_neg (by rw [ha, hb]; simp), if_neg (by rw [ho]; simp)] at h
  obtain ⟨v, y, he, hm, hr, _⟩ := h
  obtain ⟨A, c, rfl, _⟩ := hr.shape
  exact ⟨A, c, y, he, hm, hr, hB⟩
theorem pairsL_len (lc rc : List Int) (a b : List GE) : (pairsL lc rc a b).length ≤ a.length * b.length := flat_len a (fun x => rowP lc rc x b) b.length fun x _ => rowP_len x b
set_option maxRecDepth 100000 in
set_option maxHeartbeats 4000000 in
theorem lawPairs_walk (op m1 m2 nk : Int) (name : ByteArray) (anti : Bool) (A1 A2 A3 A4 A5 A6 A7 : Option Addr) (c1 c2 l3 c3 l4 c4 l5 c5 l6 c6 l7 c7 : Nat) (lc rc widths : List Int) (ds : List (List (List GE))) (u v : Value) (w : World) (hw : GW w) (h1 : RdI w AnyB (.slice A1 lc.length c1) lc) (h2 : RdI w AnyB (.slice A2 rc.length c2) rc) (hu : RdI w AnyB u widths) (hv : RdDD w AnyB v ds) (hP : NodeC w (PlanAt w 80) [.int .i64 op, .int .i64 m1, .int .i64 m2, .int .i64 nk, .string name, .bool anti, .slice A1 lc.length c1, .slice A2 rc.length c2, .slice A3 l3 c3, .slice A4 l4 c4, .slice A5 l5 c5, .slice A6 l6 c6, .slice A7 l7 c7])
    (haw : ∀ W, GW W → Calls Tryz.prog 8 #[] W fun e w' => e = .returned (.bool true) ∧ Below W.heap.size W w') :
    Calls Tryz.prog 3 #[.agg #[.int .i64 op, .int .i64 m1, .int .i64 m2, .int .i64 nk, .string name, .bool anti, .slice A1 lc.length c1, .slice A2 rc.length c2, .slice A3 l3 c3, .slice A4 l4 c4, .slice A5 l5 c5, .slice A6 l6 c6, .slice A7 l7 c7], u, v] w fun e w' => e = .returned (.bool true) ∧ Below w.heap.size w w' := by
  have mixed := mixed
  obtain ⟨A, c, rfl, _⟩ := hu.shape
  obtain ⟨D, d, rfl, _⟩ := hv.shape
  have hdl := hv.len
  obtain ⟨W0, hW0⟩ : ∃ W0, W0 = w.alloc (.cells #[.int .i64 op, .int .i64 m1, .int .i64 m2, .int .i64 nk, .string name, .bool anti, .slice A1 lc.length c1, .slice A2 rc.length c2, .slice A3 l3 c3, .slice A4 l4 c4, .slice A5 l5 c5, .slice A6 l6 c6, .slice A7 l7 c7] 28) := ⟨_, rfl⟩
  have HND := As.mk (node_all w op m1 m2 nk name anti A1 A2 A3 A4 A5 A6 A7 lc.length c1 rc.length c2 l3 c3 l4 c4 l5 c5 l6 c6 l7 c7 28 W0 hW0)
  have hE0 : Ext w W0 := hW0 ▸ Ext.alloc (Ext.refl w) _
  have hsz : w.heap.size < W0.heap.size := by rw [hW0]; simp
  have HW0B := As.mk hE0.below
  have HAW := As.mk (haw W0 (hw.below hE0.below))
  have HG := As.mk (hw.below hE0.below)
  have H1 := As.mk (h1.ext hE0.below)
  have H2 := As.mk (h2.ext hE0.below)
  have HU := As.mk (hu.ext hE0.below)
  have HV := As.mk (hv.ext hE0.below)
  have HP := As.mk (hP.ext hE0.below fun _ => PlanAt.ext hE0.below)
  clear hw h1 h2 hu hv hP haw hE0
  go_enter Tryz.func3, Tryz.ntmps3
  go_wp2_with fail
  rw [← hW0]
  clear hW0
  refine HAW.out.mono ?_
  rintro e w2 ⟨rfl, hB2⟩
  have HB2 := As.mk hB2
  have HMD := As.mk (lMade_any op m1 m2 nk name anti A1 A2 A3 A4 A5 A6 A7 c1 c2 l3 c3 l4 c4 l5 c5 l6 c6 l7 c7 lc rc widths (.slice A widths.length c) w2 (H1.out.ext hB2) (H2.out.ext hB2) (HU.out.ext hB2) (HP.out.ext hB2 fun _ => PlanAt.ext hB2))
  obtain ⟨n0, n1, n2, n3, n4, n5, n6, n7, n8, n9, n10, n11, n12⟩ := HND.out
  have n0 := bc hB2 n0
  have n1 := bc hB2 n1
  have n2 := bc hB2 n2
  have n3 := bc hB2 n3
  have n4 := bc hB2 n4
  have n5 := bc hB2 n5
  have n6 := bc hB2 n6
  have n7 := bc hB2 n7
  have n8 := bc hB2 n8
  have n9 := bc hB2 n9
  have n10 := bc hB2 n10
  have n11 := bc hB2 n11
  have n12 := bc hB2 n12
  clear hB2
  go_wp2_with fail
  refine HMD.out.mono ?_
  rintro e w3 ⟨hB3, hm⟩
  have HB3 := As.mk (HB2.out.trans (hB3.mono HB2.out.size))
  have hs3 := hB3.size
  clear hB3 n0 n1 n2 n3 n4 n5 n6 n7 n8 n9 n10 n11 n12
  rcases hm with rfl | ⟨b, bl, br, x, y, rfl, rfl, hok, g1, g2, g3, rfl, hJ⟩
  · go_wp2_with fail
    go_ret
    exact ⟨rfl, HW0B.out.trans (HB3.out.mono (Nat.le_of_lt hsz))⟩
  · obtain ⟨nl, nr, rfl, rfl, hcol⟩ := cols_of hok
    have HCO := As.mk hcol
    have HJ := As.mk (JSt.new (n := W0.heap.size) hJ (Nat.le_trans HB2.out.size g1) (Nat.le_trans HB2.out.size g2) (Nat.le_trans HB2.out.size g3))
    have hnl : (nl : Int) ≤ 1024 := by have := hcol.wide; omega
    have hnr : (nr : Int) ≤ 1024 := by have := hcol.wide; omega
    have HVA := As.mk (lVast_any _ _ (nl : Int) (nr : Int) ds w3 (HU.out.ext HB3.out) (HV.out.ext HB3.out) ⟨by omega, hnl⟩ ⟨by omega, hnr⟩)
    clear hok g1 g2 g3 hJ hcol
    simp only [List.length_cons, List.length_nil, Nat.zero_add, Nat.reduceAdd] at *
    go_wp2_with fail
    refine HVA.out.mono ?_
    intro e w4 hq
    obtain ⟨⟨q, rfl⟩, hE4⟩ := hq
    have HE4 := As.mk hE4
    clear hE4
    cases q with
    | true =>
      go_wp2_with fail
      go_ret
      exact ⟨rfl, HW0B.out.trans ((HB3.out.trans (HE4.out.below.mono HB3.out.size)).mono (Nat.le_of_lt hsz))⟩
    | false =>
      have HVN := As.mk (RdDD.mv (ok' := fun k _ => k < W0.heap.size) HV.out (Stays.widen fun k t hk _ => hk))
      obtain ⟨bw, ow, cw, hvw, _, _, f0⟩ := RdI.val HU.out (j := 0) rfl
      obtain ⟨bw', ow', cw', hvw', _, _, f1⟩ := RdI.val HU.out (j := 1) rfl
      injection hvw with hA _ hcc
      subst hA hcc
      injection hvw' with hA _ hcc
      injection hA with hA
      injection hA with hA1 hA2 _
      subst hA1 hA2 hcc
      have F0 := As.mk f0
      have F1 := As.mk f1
      clear f0 f1
      simp only [Nat.add_zero] at F0
      have hB4 := HB3.out.trans (HE4.out.below.mono HB3.out.size)
      have HL0 := As.mk (LP.start (some ⟨w4.heap.size, 0, none⟩) (some ⟨(w4.alloc (.cells #[] 66)).heap.size, 0, none⟩) (some ⟨((w4.alloc (.cells #[] 66)).alloc (.cells #[] 66)).heap.size, 0, none⟩) (lc := lc) (rc := rc) (nl := nl) (nr := nr) (hB4.trans ((Ext.alloc (Ext.alloc (Ext.alloc (Ext.refl w4) (.cells #[] 66)) (.cells #[] 66)) (.cells #[] 66)).below.mono hB4.size)) _ (fun k hk => hk.1) ((HJ.out.ext HE4.out.below).ext (Ext.alloc (Ext.alloc (Ext.alloc (Ext.refl w4) (.cells #[] 66)) (.cells #[] 66)) (.cells #[] 66)).below))
      clear hB4
      go_wp2_with fail
      go_loopg [8, 9, 10, 11, 12, 13, 14, 15, 16, 17, 18, 19] 40 (fun g s8 s9 s10 s11 _ _ _ _ _ _ _ _ wr => ∃ (i : Nat) (a z s : List GE), i ≤ 40 ∧ 40 - i ≤ g ∧ s11 = .int .i64 i ∧ As (LP W0.heap.size W0 wr lc rc nl nr b bl br i s8 s9 s10 a z s))
      case atStart => exact ⟨0, [], [], [], by omega, by omega, rfl, ⟨by simpa using HL0.out⟩⟩
      case round =>
        obtain ⟨i, a, z, s, hi, hg, rfl, HL⟩ := hrel
        clear HL0
        have HBL := As.mk (HW0B.out.trans (HL.out.below.mono (Nat.le_of_lt hsz)))
        by_cases hlt : i < ds.length
        · have hz1 : (i : Int) < (ds.length : Int) := by omega
          by_cases h40 : i < 40
          · have hz2 : (i : Int) < 40 := by omega
            obtain ⟨E, hE⟩ : ∃ E, ds[i]? = some E := ⟨_, List.getElem?_eq_getElem hlt⟩
            obtain ⟨b2, o2, c2', A2', d2, hv2, hb2, hr2, e0⟩ := HVN.out.ds hE
            injection hv2 with hA _ hcc
            subst hA hcc
            have e0 := bc HL.out.below e0
            by_cases hE2 : E.length = 2
            · obtain ⟨da, dz, rfl⟩ : ∃ da dz, E = [da, dz] := by
                match E, hE2 with
                | [da, dz], _ => exact ⟨da, dz, rfl⟩
              obtain ⟨b3, o3, c3', A3', d3, hv3, hb3, hr3, g0⟩ := RdD.delta hr2 (j := 0) rfl
              obtain ⟨b4, o4, c4', A4', d4, hv4, hb4, hr4, g1⟩ := RdD.delta hr2 (j := 1) rfl
              injection hv3 with hA _ hcc
              subst hA hcc
              injection hv4 with hA _ hcc
              injection hA with hA
              injection hA with hA1 hA2 _
              subst hA1 hA2 hcc
              have g0 := bc HL.out.below g0
              have g1 := bc HL.out.below g1
              have f0 := bc HL.out.below F0.out
              have f1 := bc HL.out.below F1.out
              simp only [List.length_cons, List.length_nil, Nat.zero_add, Nat.reduceAdd, Nat.add_zero] at *
              have HDA := As.mk (RdZ.mv hr3 (safe_low (R := fun _ => False) HL.out.below (fun _ h => h.elim)))
              have HDZ := As.mk (RdZ.mv hr4 (safe_low (R := fun _ => False) HL.out.below (fun _ h => h.elim)))
              have HR2 := As.mk hr2
              obtain ⟨A8, c8, rfl, _⟩ := HL.out.ra.shape
              obtain ⟨A9, c9, rfl, _⟩ := HL.out.rz.shape
              obtain ⟨A10, c10, rfl, _⟩ := HL.out.rs.shape
              have hla := HL.out.la
              have hlz := HL.out.lz
              have hdla := HDA.out.len
              have hdlz := HDZ.out.len
              have HBA := As.mk (fun W (hb : Below wr.heap.size wr W) => lBag_any (.slice A8 a.length c8) (.slice A3' da.length d3) a da (nl : Int) W (RdZ.ext HL.out.ra.any hb) ((HDA.out.mv (Stays.any _ _)).ext hb) ⟨by omega, by omega⟩ (by omega))
              have HBZ := As.mk (fun W (hb : Below wr.heap.size wr W) => lBag_any (.slice A9 z.length c9) (.slice A4' dz.length d4) z dz (nr : Int) W (RdZ.ext HL.out.rz.any hb) ((HDZ.out.mv (Stays.any _ _)).ext hb) ⟨by omega, by omega⟩ (by omega))
              clear hr2 hr3 hr4 hdla hdlz
              go_wp2_with fail
              go_region_held3 (fun w' => w'.cell? ⟨b2, o2 + i, none⟩ = some (.slice (some ⟨b3, o3, none⟩) 2 d2) ∧ w'.cell? ⟨b3, o3, none⟩ = some (.slice A3' da.length d3) ∧ w'.cell? ⟨b3, o3 + 1, none⟩ = some (.slice A4' dz.length d4) ∧ w'.cell? ⟨bw, ow, none⟩ = some (.int .i64 nl) ∧ w'.cell? ⟨bw, ow + 1, none⟩ = some (.int .i64 nr)) (first | go_keep | exact ⟨k0, k1, k2, k3, k4⟩) ((go_at_call 11; refine (HBA.out _ (by first | exact Below.refl _ _ | exact (Ext.drew (Ext.refl _)).below)).mono ?_; rintro e w5 ⟨A5', c5', y1, ok1, rfl, hB5', hr5, hk5⟩; have hB5 : Below wr.heap.size wr w5 := (by first | exact hB5' | exact (Ext.drew (Ext.refl wr)).below.trans hB5'); clear hB5'; have k0 := bc hB5 e0; have k1 := bc hB5 g0; have k2 := bc hB5 g1; have k3 := bc hB5 f0; have k4 := bc hB5 f1))
              have HB5 := As.mk hB5
              have HR5 := As.mk hr5
              have HK5 := As.mk hk5
              have HBZ5 := As.mk (fun W (hb : Below w5.heap.size w5 W) => HBZ.out W (HB5.out.trans (hb.mono HB5.out.size)))
              clear hr5 hk5 e0 g0 g1 f0 f1 HBA HBZ
              go_wp2_with fail
              clear hB5
              go_region_held3 (fun w' => w'.cell? ⟨b2, o2 + i, none⟩ = some (.slice (some ⟨b3, o3, none⟩) 2 d2) ∧ w'.cell? ⟨b3, o3, none⟩ = some (.slice A3' da.length d3) ∧ w'.cell? ⟨b3, o3 + 1, none⟩ = some (.slice A4' dz.length d4) ∧ w'.cell? ⟨bw, ow, none⟩ = some (.int .i64 nl) ∧ w'.cell? ⟨bw, ow + 1, none⟩ = some (.int .i64 nr)) (first | go_keep | exact ⟨e0, e1, e2, e3, e4⟩) ((go_at_call 11; refine (HBZ5.out _ (by first | exact Below.refl _ _ | exact (Ext.drew (Ext.refl _)).below)).mono ?_; rintro e w6 ⟨A6', c6', y2, ok2, rfl, hB6', hr6, hk6⟩; have hB6 : Below w5.heap.size w5 w6 := (by first | exact hB6' | exact (Ext.drew (Ext.refl w5)).below.trans hB6'); clear hB6'; have e0 := bc hB6 k0; have e1 := bc hB6 k1; have e2 := bc hB6 k2; have e3 := bc hB6 k3; have e4 := bc hB6 k4))
              have HB6 := As.mk (HB5.out.trans (hB6.mono HB5.out.size))
              have HR5 := As.mk (RdZ2.ext HR5.out hB6)
              have HR6 := As.mk hr6
              have HK6 := As.mk hk6
              have hs56 := hB6.size
              have HBL6 := As.mk (HBL.out.trans (HB6.out.mono HBL.out.size))
              clear hr6 hk6 hB6 HBZ5 k0 k1 k2 k3 k4
              cases ok1 with
              | false =>
                go_wp2_with fail
                go_ret
                exact ⟨rfl, HBL6.out⟩
              | true =>
                cases ok2 with
                | false =>
                  go_wp2_with fail
                  go_ret
                  exact ⟨rfl, HBL6.out⟩
                | true =>
                  obtain ⟨p1, p2, _, p4, p5, p6⟩ := HK5.out rfl
                  obtain ⟨q1, q2, _, q4, q5, q6⟩ := HK6.out rfl
                  have BA := As.mk (show BagOk nl a da y1 from ⟨p1, fun x hx => by have := p2 x hx; omega, p4, p5, p6⟩)
                  have BZ := As.mk (show BagOk nr z dz y2 from ⟨q1, fun x hx => by have := q2 x hx; omega, q4, q5, q6⟩)
                  have hy1 : y1.length ≤ 40 * (i + 1) := by have := p5.length; rw [List.length_append] at this; omega
                  have hy2 : y2.length ≤ 40 * (i + 1) := by have := q5.length; rw [List.length_append] at this; omega
                  have hpm : IntKind.i64.wrap ((y1.length : Int) * (y2.length : Int)) = (y1.length : Int) * (y2.length : Int) := by
                    have h1 : y1.length * y2.length ≤ 1640 * 1640 := Nat.mul_le_mul (by omega) (by omega)
                    have h2 : ((y1.length * y2.length : Nat) : Int) ≤ 1640 * 1640 := by exact_mod_cast h1
                    rw [Int.natCast_mul] at h2
                    have h3 : (0 : Int) ≤ (y1.length : Int) * (y2.length : Int) := Int.mul_nonneg (by omega) (by omega)
                    rw [IntKind.wrap_i64]
                    omega
                  clear p1 p2 p4 p5 p6 q1 q2 q4 q5 q6
                  by_cases hbig : (4000 : Int) < (y1.length : Int) * (y2.length : Int)
                  · go_wp2_with fail
                    go_ret
                    exact ⟨rfl, HBL6.out⟩
                  · have h4000 : y1.length * y2.length ≤ 4000 := by
                      have h1 : ((y1.length * y2.length : Nat) : Int) ≤ 4000 := by rw [Int.natCast_mul]; omega
                      omega
                    have HB06 := As.mk (HL.out.below.trans (HB6.out.mono HL.out.below.size))
                    obtain ⟨n0, n1, n2, n3, n4, n5, n6, n7, n8, n9, n10, n11, n12⟩ := HND.out
                    have n0 := bc HB06.out n0
                    have n1 := bc HB06.out n1
                    have n2 := bc HB06.out n2
                    have n3 := bc HB06.out n3
                    have n4 := bc HB06.out n4
                    have n5 := bc HB06.out n5
                    have n6 := bc HB06.out n6
                    have n7 := bc HB06.out n7
                    have n8 := bc HB06.out n8
                    have n9 := bc HB06.out n9
                    have n10 := bc HB06.out n10
                    have n11 := bc HB06.out n11
                    have n12 := bc HB06.out n12
                    have HWA := As.mk (BA.out.bag HL.out.wa)
                    have HWZ := As.mk (BZ.out.bag HL.out.wz)
                    have HPR := As.mk (lPairs_any 5 m1 m2 nk name anti A1 A2 A3 A4 A5 A6 A7 c1 c2 l3 c3 l4 c4 l5 c5 l6 c6 l7 c7 lc rc (.slice A5' y1.length c5') (.slice A6' y2.length c6') y1 y2 nl nr w6 HR5.out.any HR6.out.any (H1.out.ext HB06.out) (H2.out.ext HB06.out) HWA.out HWZ.out HCO.out h4000)
                    have HZA := As.mk (zsound_ok BA.out.sd HDA.out.vals).1
                    have HZZ := As.mk (zsound_ok BZ.out.sd HDZ.out.vals).1
                    have HFIT := As.mk (JFit.of HCO.out HL.out.wa HL.out.wz BA.out BZ.out HZA.out HZZ.out)
                    have HOLD := As.mk (fun p q (_ : RowOk p) (_ : RowOk q) (_ : p.length = nl) (_ : q.length = nr) hk => HL.out.sm.at HL.out.wa.ok HL.out.wz.ok p q hk)
                    have HSV := As.mk (small_vast (lc := lc) (rc := rc) HL.out.wa HL.out.wz BA.out BZ.out)
                    obtain ⟨R, hR, hst⟩ := HL.out.st
                    have HRR := As.mk hR
                    have HST := As.mk hst
                    have hml : 0 < W0.heap.size := by
                      obtain ⟨m, hm⟩ := HG.out
                      exact World.block_lt_of_cell? W0 ⟨0, 0, none⟩ hm
                    have hfa := BA.out.few
                    have hfz := BZ.out.few
                    have hN1 : (a.length + da.length) * (z.length + dz.length) ≤ 2147483648 := Nat.le_trans (Nat.mul_le_mul (show a.length + da.length ≤ 1640 by omega) (show z.length + dz.length ≤ 1640 by omega)) (by decide)
                    have HN1 := As.mk hN1
                    have HSTEP := As.mk (fun W (hb : Below w6.heap.size w6 W) => jStep_any R b bl br lc rc (nl : Int) (nr : Int) 0 a z [da, dz] (.slice (some ⟨b3, o3, none⟩) 2 d2) W (HG.out.below (HB06.out.trans (hb.mono HB06.out.size))) ((HST.out.ext HB6.out).ext hb) (RdD.mv HR2.out (safe_low (HB06.out.trans (hb.mono HB06.out.size)) HRR.out)) (fun h => by have := HRR.out _ h; omega) (fun da' dz' h => by
                      simp only [List.cons.injEq, and_true] at h
                      obtain ⟨rfl, rfl⟩ := h
                      exact ⟨hN1, by omega, by omega⟩))
                    clear hst hR hN1 hml
                    go_wp2_with fail
                    refine HPR.out.mono ?_
                    rintro e w7 ⟨hB7, hcase⟩
                    have HB7 := As.mk hB7
                    have e0 := bc hB7 e0
                    clear n0 n1 n2 n3 n4 n5 n6 n7 n8 n9 n10 n11 n12 hB7
                    rcases hcase with ⟨hns, rfl⟩ | ⟨hsm, A7', c7', want, rfl, hmw, hrw⟩
                    · have HV' := As.mk (Classical.not_not.1 fun h => hns (HSV.out.2 h))
                      go_wp2_with fail
                      refine (HSTEP.out w7 HB7.out).mono ?_
                      intro e w8 h8
                      obtain ⟨rfl, hmut, _⟩ := h8.vast HFIT.out HOLD.out HV'.out BA.out.sd BZ.out.sd
                      have HB8 := As.mk (hmut.low HRR.out (Nat.le_trans HB06.out.size HB7.out.size))
                      clear hmut h8
                      go_wp2_with fail
                      go_ret
                      exact ⟨rfl, HBL6.out.trans ((HB7.out.mono HBL6.out.size).trans (HB8.out.mono (Nat.le_of_lt hsz)))⟩
                    · have HOK := As.mk (JOk.of HFIT.out HOLD.out (HSV.out.1 hsm))
                      have HSM := As.mk hsm
                      have HMW := As.mk hmw
                      have HRW := As.mk hrw
                      clear hsm hmw hrw
                      go_wp2_with fail
                      refine (HSTEP.out w7 HB7.out).mono ?_
                      intro e w8 h8
                      obtain ⟨v8, dd, rfl, hdel, hrd, hmut, a', z', hst8, hza, hzz, hdl8⟩ := h8.ok HOK.out HCO.out.wide BA.out.sd BZ.out.sd
                      obtain ⟨A8', c8', rfl, _⟩ := hrd.shape
                      have HDEL := As.mk hdel
                      have HRD := As.mk hrd
                      have HMUT := As.mk hmut
                      have HST8 := As.mk (hst8.one hza hzz BA.out.made BZ.out.made)
                      have hdl9 : dd.length ≤ 2147483648 := Nat.le_trans hdl8 (outs_len HN1.out)
                      obtain ⟨ho, hres⟩ := HL.out.res.step HOK.out HDEL.out BA.out.sum BZ.out.sum
                      have HRES := As.mk hres
                      have hlss := HL.out.ls
                      have HS8 := As.mk (((RdZ2.ext (RdZ2.ext HL.out.rs HB6.out) HB7.out)).jmut hmut)
                      have HADD := As.mk ((add_any (.slice A10 s.length c10) (.slice A8' dd.length c8') s dd w8 HS8.out.any HRD.out.any (by omega)).mono fun e w' h => h.ok (zok_sound HL.out.res.ok HL.out.res.fz) (zok_sound HDEL.out.ok HDEL.out.fz) ho)
                      clear h8 hdel hrd hmut hst8 hza hzz hdl8 hdl9 ho hres hlss
                      go_wp2_with fail
                      refine HADD.out.mono ?_
                      rintro e w9 ⟨A11, c11, s', rfl, hms, hrs, hB9⟩
                      have hw1 := HRES.out s' hms
                      have hw2 := (pairs_res HCO.out.wide HWA.out.ok HWZ.out.ok HWA.out.len HWZ.out.len (fun x hx => (HWA.out.w x hx).1) (fun x hx => (HWZ.out.w x hx).1) HSM.out).2.2 want HMW.out
                      obtain rfl : s' = want := hw1.one hw2
                      have hwl : s'.length ≤ 4000 := Nat.le_trans HMW.out.length (Nat.le_trans (pairsL_len lc rc y1 y2) (by have h := h4000; exact h))
                      have HB9 := As.mk hB9
                      have HRS := As.mk hrs
                      have HSAME := As.mk (same3_any (.slice A11 s'.length c11) (.slice A7' s'.length c7') s' s' w9 hrs.any ((HRW.out.jmut HMUT.out).ext hB9).any)
                      rw [(sameZ_eq s' s').2 rfl] at HSAME
                      have HRE := As.mk hw1
                      clear hms hrs hB9 hw1 hw2
                      go_wp2_with fail
                      refine HSAME.out.mono ?_
                      rintro e w10 ⟨rfl, m, rfl⟩
                      have hE10 : Ext w9 (w9.drewN m) := Ext.drewN (Ext.refl _) m
                      have hs7 := HB7.out.size
                      have hs06 := HB06.out.size
                      have hs8 := HMUT.out.size
                      have hbz9 := HB9.out.size
                      have HB8 := As.mk (HMUT.out.low HRR.out (Nat.le_trans hs06 hs7))
                      have HLN := As.mk (show LP W0.heap.size W0 (w9.drewN m) lc rc nl nr b bl br (i + 1) (.slice A5' y1.length c5') (.slice A6' y2.length c6') (.slice A11 s'.length c11) y1 y2 s' from
                        ⟨RdZ2.low ((((HR5.out.ext HB7.out).jmut HMUT.out).ext HB9.out).ext hE10.below) HL.out.below.size, RdZ2.low ((((HR6.out.ext HB7.out).jmut HMUT.out).ext HB9.out).ext hE10.below) (Nat.le_trans HL.out.below.size HB5.out.size), RdZ2.low (HRS.out.ext hE10.below) (by omega), HWA.out, HWZ.out, HSM.out, HRE.out, hy1, hy2, hwl, (((HB06.out.trans (HB7.out.mono hs06)).trans HB8.out).trans (HB9.out.mono (by omega))).trans (hE10.below.mono (by omega)), ⟨_, fun k hk => (by
                          rcases hk with hk | hk
                          · exact HRR.out k hk
                          · have := hk.1; omega), (HST8.out.ext HB9.out).ext hE10.below⟩⟩)
                      clear hE10
                      go_wp2_with fail
                      go_roundg (40 - (i + 1))
                      case measure => omega
                      case rel => exact ⟨i + 1, y1, y2, s', by omega, by omega, by go_num, HLN⟩
            · have h2z : ((E.length : Int) == 2) = false := by simp; omega
              go_wp2_with fail
              go_ret
              exact ⟨rfl, HBL.out⟩
          · have hz2 : ¬ (i : Int) < 40 := by omega
            go_wp2_with fail
            go_ret
            exact ⟨rfl, HBL.out⟩
        · have hz1 : ¬ (i : Int) < (ds.length : Int) := by omega
          go_wp2_with fail
          go_ret
          exact ⟨rfl, HBL.out⟩
end Go.Proofs.YtflckpfpgpfjlaaGreatDoor
