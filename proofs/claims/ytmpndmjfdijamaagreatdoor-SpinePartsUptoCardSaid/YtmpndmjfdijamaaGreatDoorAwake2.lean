/- The walk of 'awake'. -/
import Derived.Test.YtmpndmjfdijamaaGreatDoorAwake
set_option linter.unusedVariables false
set_option linter.unusedSimpArgs false
namespace Go.Proofs.YtmpndmjfdijamaaGreatDoor
open Go.RowKit Go.Sort
theorem rdz3 {w : World} {v1 v2 v3 : Value} {r1 r2 r3 : List GV} {n1 n2 n3 : Int} (h1 : RdV w AnyB v1 r1) (h2 : RdV w AnyB v2 r2) (h3 : RdV w AnyB v3 r3) (i1 : i64 n1) (i2 : i64 n2) (i3 : i64 n3) :
    RdZ (w.alloc (.cells #[v1, .int .i64 n1, v2, .int .i64 n2, v3, .int .i64 n3] 47)) AnyB (.slice (some ⟨w.heap.size, 0, none⟩) 3 3) [⟨r1, n1⟩, ⟨r2, n2⟩, ⟨r3, n3⟩] := by
  have hb : Below w.heap.size w (w.alloc (.cells #[v1, .int .i64 n1, v2, .int .i64 n2, v3, .int .i64 n3] 47)) := (Below.refl _ _).alloc (Nat.le_refl _) _
  obtain ⟨_, _, rfl, _⟩ := h1.shape
  obtain ⟨_, _, rfl, _⟩ := h2.shape
  obtain ⟨_, _, rfl, _⟩ := h3.shape
  refine RdL.lit _ _ ((((Reps.nil 2 _).snoc (EE.lit (h1.ext hb) i1) rfl).snoc (EE.lit (h2.ext hb) i2) rfl).snoc (EE.lit (h3.ext hb) i3) rfl) ?_ (by simp) _ 47 3 rfl (heap_alloc_new _ _) trivial
  simp [Value.oneCell']
theorem rdz2 {w : World} {v1 v2 : Value} {r1 r2 : List GV} {n1 n2 : Int} (h1 : RdV w AnyB v1 r1) (h2 : RdV w AnyB v2 r2) (i1 : i64 n1) (i2 : i64 n2) :
    RdZ (w.alloc (.cells #[v1, .int .i64 n1, v2, .int .i64 n2] 47)) AnyB (.slice (some ⟨w.heap.size, 0, none⟩) 2 2) [⟨r1, n1⟩, ⟨r2, n2⟩] := by
  have hb : Below w.heap.size w (w.alloc (.cells #[v1, .int .i64 n1, v2, .int .i64 n2] 47)) := (Below.refl _ _).alloc (Nat.le_refl _) _
  obtain ⟨_, _, rfl, _⟩ := h1.shape
  obtain ⟨_, _, rfl, _⟩ := h2.shape
  refine RdL.lit _ _ (((Reps.nil 2 _).snoc (EE.lit (h1.ext hb) i1) rfl).snoc (EE.lit (h2.ext hb) i2) rfl) ?_ (by simp) _ 47 2 rfl (heap_alloc_new _ _) trivial
  simp [Value.oneCell']
theorem rdz1 {w : World} {v1 : Value} {r1 : List GV} {n1 : Int} (h1 : RdV w AnyB v1 r1) (i1 : i64 n1) :
    RdZ (w.alloc (.cells #[v1, .int .i64 n1] 47)) AnyB (.slice (some ⟨w.heap.size, 0, none⟩) 1 1) [⟨r1, n1⟩] := by
  have hb : Below w.heap.size w (w.alloc (.cells #[v1, .int .i64 n1] 47)) := (Below.refl _ _).alloc (Nat.le_refl _) _
  obtain ⟨_, _, rfl, _⟩ := h1.shape
  refine RdL.lit _ _ ((Reps.nil 2 _).snoc (EE.lit (h1.ext hb) i1) rfl) ?_ (by simp) _ 47 1 rfl (heap_alloc_new _ _) trivial
  simp [Value.oneCell']
theorem rdi0 (w : World) : RdI (w.alloc (.cells #[.int .i64 0] 3)) AnyB (.slice (some ⟨w.heap.size, 0, none⟩) 1 1) [0] :=
  RdL.lit _ _ ((Reps.nil 1 EI).snoc (x := (0 : Int)) ⟨rfl, by simp [i64]⟩ rfl) (by simp [Value.oneCell']) (by simp) _ 3 1 rfl (heap_alloc_new _ _) trivial
theorem rdv1 (w : World) : RdV (w.alloc (.cells #[.int .i64 2, .int .i64 1, .int .u64 0, .string ⟨#[]⟩] 55)) AnyB (.slice (some ⟨w.heap.size, 0, none⟩) 1 1) [iv 1] :=
  RdL.lit _ _ ((Reps.nil 4 EV).snoc (x := iv 1) ⟨rfl, iv_ok (by simp [i64])⟩ rfl) (GV.cells_one (iv 1)) (by simp) _ 55 1 rfl (heap_alloc_new _ _) trivial
theorem field_row (g : Nat) (n : Int) (w : World) : (Instr.field 47 (.agg #[.slice (some ⟨g, 0, none⟩) 2 2, .int .i64 n]) 0).run Tryz.prog w = .ok (.slice (some ⟨g, 0, none⟩) 2 2) w := by
  kernel_rfl
set_option maxHeartbeats 8000000 in
set_option maxRecDepth 100000 in
theorem awake_any (w : World) (hw : GW w) : Calls Tryz.prog 8 #[] w fun e w' => e = .returned (.bool true) ∧ Below w.heap.size w w' := by
  have HW := As.mk hw
  have hB0 : Below w.heap.size w (w.alloc (.cells #[.int .i64 0] 3)) := (Below.refl _ _).alloc (Nat.le_refl _) _
  have h1 := spNew_good _ _ _ (rdi0 w) (by decide)
  clear hw
  go_enter Tryz.func8, Tryz.ntmps8
  go_wp2_with fail
  refine h1.mono ?_
  rintro e w2 ⟨b, rfl, hN, hB2⟩
  have HN := As.mk hN.sp
  have HBB := As.mk hN.1
  have hbase : w.heap.size ≤ (w.alloc (.cells #[.int .i64 0] 3)).heap.size := hB0.size
  have hbase2 := hB2.size
  have HB2 := As.mk (hB0.trans (hB2.mono hB0.size))
  clear hN hB2 hB0 h1
  generalize (w.alloc (.cells #[.int .i64 0] 3)).heap.size = base at *
  go_wp2_with fail
  refine (two_any 1 5 1 (by simp [i64]) (by simp [i64]) _).mono ?_
  rintro e w3 ⟨g3, rfl, hr3, hB3⟩
  go_wp2_with fail
  refine (two_any 1 6 2 (by simp [i64]) (by simp [i64]) _).mono ?_
  rintro e w4 ⟨g4, rfl, hr4, hB4⟩
  go_wp2_with fail
  refine (two_any 2 5 1 (by simp [i64]) (by simp [i64]) _).mono ?_
  rintro e w5 ⟨g5, rfl, hr5, hB5⟩
  have hz1 := rdz3 ((hr3.ext hB4).ext hB5 |>.mv (Stays.any _ _)) (hr4.ext hB5 |>.mv (Stays.any _ _)) (hr5.mv (Stays.any _ _)) (n1 := 1) (n2 := 2) (n3 := 1) (by simp [i64]) (by simp [i64]) (by simp [i64])
  have hB5' : Below w2.heap.size w2 w5 := (hB3.trans (hB4.mono hB3.size)).trans (hB5.mono (Nat.le_trans hB3.size hB4.size))
  have hB6 := hB5'.alloc hB5'.size (.cells #[.slice (some ⟨g3, 0, none⟩) 2 2, .int .i64 1, .slice (some ⟨g4, 0, none⟩) 2 2, .int .i64 2, .slice (some ⟨g5, 0, none⟩) 2 2, .int .i64 1] 47)
  have hP1 := put_any base b ⟨[0], [], 0⟩ _ z1 _ (HW.out.below (HB2.out.trans (hB6.mono HB2.out.size))) hz1 (Nat.le_trans hbase2 hB6.size) (HN.out.ext hB6) (fun z hz => by cases hz) (by decide) (by simp) (by simp)
  clear hz1 hr3 hr4 hr5 hB3 hB4 hB5
  go_wp2_with fail
  refine hP1.mono ?_
  rintro e w7 hpost
  obtain ⟨rfl, hS7, hM7⟩ := put1 hpost
  have hbase7 : base ≤ w7.heap.size := Nat.le_trans (Nat.le_trans hbase2 hB6.size) hM7.size
  have HB7 := As.mk ((HB2.out.trans (hB6.mono HB2.out.size)).trans (hM7.below hbase (by have := HBB.out; omega) (Nat.le_trans HB2.out.size hB6.size)))
  have HS7 := As.mk hS7
  clear hpost hS7 hM7 hP1 hB6 hB5' HN HB2
  go_wp2_with fail
  refine (two_any 1 5 (-1) (by simp [i64]) (by simp [i64]) _).mono ?_
  rintro e w8 ⟨g8, rfl, hr8, hB8⟩
  go_wp2_with fail
  refine (two_any 3 5 1 (by simp [i64]) (by simp [i64]) _).mono ?_
  rintro e w9 ⟨g9, rfl, hr9, hB9⟩
  have hz2 := rdz2 (hr8.ext hB9 |>.mv (Stays.any _ _)) (hr9.mv (Stays.any _ _)) (n1 := -1) (n2 := 1) (by simp [i64]) (by simp [i64])
  have hB9' : Below w7.heap.size w7 w9 := hB8.trans (hB9.mono hB8.size)
  have hB10 := hB9'.alloc hB9'.size (.cells #[.slice (some ⟨g8, 0, none⟩) 2 2, .int .i64 (-1), .slice (some ⟨g9, 0, none⟩) 2 2, .int .i64 1] 47)
  have hP2 := put_any base b ⟨[0], [y1], 3⟩ _ z2 _ (HW.out.below (HB7.out.trans (hB10.mono HB7.out.size))) hz2 (Nat.le_trans hbase7 hB10.size) (HS7.out.ext hB10) (fun z hz => by rw [List.mem_singleton.1 hz]; exact y1_rise) (by decide) (by simp) (by simp)
  clear hz2 hr8 hr9 hB8 hB9
  go_wp2_with fail
  refine hP2.mono ?_
  rintro e w11 hpost
  obtain ⟨rfl, ⟨bs3, hS11, hJ⟩, hM11⟩ := put2 hpost
  have HB11 := As.mk ((HB7.out.trans (hB10.mono HB7.out.size)).trans (hM11.below hbase (by have := HBB.out; omega) (Nat.le_trans HB7.out.size hB10.size)))
  have hF := (hJ.fine y12_fine).1
  have hRow := hJ.row y12_row
  have hh5 : heldL bs3 ≤ 5 := hJ.held
  have hh3 : 3 ≤ heldL bs3 := by have := allL_len bs3; rw [all12 hJ] at this; exact this
  have hl1 : 1 ≤ bs3.length := by
    rcases Nat.eq_zero_or_pos bs3.length with h | h
    · rw [List.eq_nil_of_length_eq_zero h] at hh3; simp [heldL] at hh3
    · exact h
  have HR := As.mk (fun z hz => (hF z hz).1 : ∀ z ∈ bs3, Rise z)
  have HSN := As.mk (fun z hz u hu => (hRow z hz u hu).1.1 : ∀ z ∈ bs3, ∀ u ∈ z, rsound u.row = true)
  have HS := As.mk hS11
  have HJ := As.mk hJ
  clear hpost hP2 hB10 hB9' hM11 hF hRow HB7 HS7 hS11 hJ
  have hB12 : Below w11.heap.size w11 (w11.alloc (.cells #[.int .i64 2, .int .i64 1, .int .u64 0, .string ⟨#[]⟩] 55)) := (Below.refl _ _).alloc (Nat.le_refl _) _
  have hG := get_any base b ⟨[0], bs3, 3⟩ _ [iv 1] _ (HW.out.below (HB11.out.trans (hB12.mono HB11.out.size))) (rdv1 w11) (r1_sound 1) (HS.out.ext hB12) HR.out (by simp only; omega) HSN.out
  unfold ZPost at hG
  go_wp2_with fail
  refine hG.mono ?_
  rintro e w13 ⟨v13, rfl, hB13, xs, hp, _, hrd⟩
  rw [get12 HJ.out] at hp
  obtain rfl := List.perm_singleton.1 hp
  obtain ⟨A13, c13, rfl, _⟩ := hrd.shape
  have hB13' := hB12.trans (hB13.mono hB12.size)
  have HRG := As.mk hrd.any
  clear hp hrd hG hB13 hB12
  go_wp2_with fail
  refine (two_any 1 6 2 (by simp [i64]) (by simp [i64]) _).mono ?_
  rintro e w14 ⟨g14, rfl, hr14, hB14⟩
  have hzz := rdz1 (hr14.mv (Stays.any _ _)) (n1 := 2) (by simp [i64])
  have hB15 := hB14.alloc hB14.size (.cells #[.slice (some ⟨g14, 0, none⟩) 2 2, .int .i64 2] 47)
  have hSm := same3_any _ _ _ _ _ (HRG.out.ext hB15) hzz
  rw [(sameZ_eq [e2 1 6 2] [⟨r2 1 6, 2⟩]).2 rfl] at hSm
  have HB15 := As.mk (hB13'.trans (hB15.mono hB13'.size))
  clear hzz hr14 hB14 hB15 hB13'
  go_wp2_with fail
  refine hSm.mono ?_
  rintro e w16 ⟨rfl, m16, rfl⟩
  have HB16 := As.mk (HB15.out.trans ((Ext.drewN (Ext.refl _) m16).below.mono HB15.out.size))
  clear hSm
  go_wp2_with fail
  refine (spLen_any base b _ _ (HS.out.ext HB16.out)).mono ?_
  rintro e w17 ⟨rfl, rfl⟩
  have hAl := all_any base b _ _ (HS.out.ext HB16.out) (by simp only; omega) HSN.out
  unfold ZPost at hAl
  go_wp2_with fail
  refine hAl.mono ?_
  rintro e w18 ⟨v18, rfl, hB18, xs, hp, hso, hrd⟩
  obtain rfl := told12 HJ.out hp (hso.imp fun h => Int.not_lt.2 h)
  obtain ⟨A18, c18, rfl, _⟩ := hrd.shape
  have HRA := As.mk hrd.any
  have HB18 := As.mk (HB16.out.trans (hB18.mono HB16.out.size))
  clear hp hso hrd hAl hB18
  go_wp2_with fail
  refine (two_any 1 6 2 (by simp [i64]) (by simp [i64]) _).mono ?_
  rintro e w19 ⟨g19, rfl, hr19, hB19⟩
  go_wp2_with fail
  refine (two_any 2 5 1 (by simp [i64]) (by simp [i64]) _).mono ?_
  rintro e w20 ⟨g20, rfl, hr20, hB20⟩
  go_wp2_with fail
  refine (two_any 3 5 1 (by simp [i64]) (by simp [i64]) _).mono ?_
  rintro e w21 ⟨g21, rfl, hr21, hB21⟩
  have hzz := rdz3 ((hr19.ext hB20).ext hB21 |>.mv (Stays.any _ _)) (hr20.ext hB21 |>.mv (Stays.any _ _)) (hr21.mv (Stays.any _ _)) (n1 := 2) (n2 := 1) (n3 := 1) (by simp [i64]) (by simp [i64]) (by simp [i64])
  have hB21' : Below w18.heap.size w18 w21 := (hB19.trans (hB20.mono hB19.size)).trans (hB21.mono (Nat.le_trans hB19.size hB20.size))
  have hB22 := hB21'.alloc hB21'.size (.cells #[.slice (some ⟨g19, 0, none⟩) 2 2, .int .i64 2, .slice (some ⟨g20, 0, none⟩) 2 2, .int .i64 1, .slice (some ⟨g21, 0, none⟩) 2 2, .int .i64 1] 47)
  have hSm := same3_any _ _ _ _ _ (HRA.out.ext hB22) hzz
  rw [(sameZ_eq z3 [⟨r2 1 6, 2⟩, ⟨r2 2 5, 1⟩, ⟨r2 3 5, 1⟩]).2 rfl] at hSm
  have HB22 := As.mk (HB18.out.trans (hB22.mono HB18.out.size))
  clear hzz hr19 hr20 hr21 hB19 hB20 hB21 hB21' hB22
  go_wp2_with fail
  refine hSm.mono ?_
  rintro e w23 ⟨rfl, m23, rfl⟩
  have HB23 := As.mk (HB22.out.trans ((Ext.drewN (Ext.refl _) m23).below.mono HB22.out.size))
  clear hSm
  go_wp2_with fail
  refine (two_any 1 6 0 (by simp [i64]) (by simp [i64]) _).mono ?_
  rintro e w24 ⟨g24, rfl, hr24, hB24⟩
  have HB24 := As.mk (HB23.out.trans (hB24.mono HB23.out.size))
  have hWt := spWeight_any base b ⟨[0], bs3, 3⟩ _ (r2 1 6) w24 (HW.out.below (HB11.out.trans (HB24.out.mono HB11.out.size))) (HS.out.ext HB24.out) HR.out (hr24.mv (Stays.any _ _))
  rw [weight12 HJ.out] at hWt
  have hfl := field_row g24 0 w24
  clear hr24 hB24
  go_wp2_with fail
  refine hWt.mono ?_
  rintro e w25 ⟨rfl, hB25⟩
  have HB25 := As.mk (HB24.out.trans (hB25.mono HB24.out.size))
  clear hWt hB25
  have n3 : (3 : Int) ≤ (heldL bs3 : Int) := by omega
  have n1 : (1 : Int) ≤ (bs3.length : Int) := by omega
  go_wp2_with fail
  refine (spHeld_any base b ⟨[0], bs3, 3⟩ _ (HS.out.ext HB25.out) (by simp only; omega)).mono ?_
  rintro e w26 ⟨rfl, rfl⟩
  go_wp2_with fail
  refine (spBatches_any base b ⟨[0], bs3, 3⟩ _ (HS.out.ext HB25.out)).mono ?_
  rintro e w26 ⟨rfl, rfl⟩
  go_wp2_with fail
  go_ret
  exact ⟨by simp [n1], HB11.out.trans (HB25.out.mono HB11.out.size)⟩
end Go.Proofs.YtmpndmjfdijamaaGreatDoor
