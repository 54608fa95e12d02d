/- The walk of zset.Make. -/
import Derived.Test.YtflckpfpgpfjlaaGreatDoorMMkLaw
import Derived.Test.YtflckpfpgpfjlaaGreatDoorMSortS
set_option linter.unusedSimpArgs false
set_option linter.unusedVariables false
namespace Go.Proofs.YtflckpfpgpfjlaaGreatDoor
open Go.RowKit Go.Sort
set_option maxHeartbeats 8000000 in
set_option maxRecDepth 100000 in
theorem make_any (v : Value) (l : List GE) (w : World) (hl : RdZ w AnyB v l) : Calls Tryz.prog 28 #[v] w (MakePost l w) := by
  have mixed := mixed
  obtain ⟨ie0, hie, hiez⟩ := Option.map_eq_some_iff.1 info_entry
  simp only [Prod.mk.injEq] at hiez
  have HIE := As.mk hie
  have HZE := As.mk hiez.2.1
  clear hie hiez
  have h1 := contE_any v l w hl
  have h2 := fun W (hE : Below w.heap.size w W) => cloneE_any v l W (hl.ext hE)
  have hvals := hl.vals
  have hll := hl.len
  obtain ⟨A, c, rfl, hc⟩ := hl.shape
  clear hl
  cases hb : l.any badE with
  | true =>
    rw [hb] at h1
    have HB0 := As.mk hb
    clear hb h2
    go_enter Tryz.func28, Tryz.ntmps28
    go_wp2_with (go_at_call 51; refine h1.mono ?_; rintro e w1 ⟨rfl, hE⟩)
    go_ret2
    exact MakePost.bad hE.below HB0.out
  | false =>
    rw [hb] at h1
    have HOK := As.mk (badE_ok hb)
    have HV := As.mk hvals
    have HB0 := As.mk hb
    clear hb hvals
    go_enter Tryz.func28, Tryz.ntmps28
    go_wp2_with fail
    refine h1.mono ?_
    rintro e w1 ⟨rfl, hE1⟩
    have HB1 := As.mk hE1.below
    go_wp2_with fail
    refine (h2 _ HB1.out).mono ?_
    rintro e w2 ⟨u, rfl, hown, hB2⟩
    have HB2 := As.mk (HB1.out.trans (hB2.mono HB1.out.size))
    have hsort := sortStable_any w1.heap.size u l (Old w1.heap.size) w2 hown (fun x hx => (HOK.out x hx).2) (fun k => by
      by_cases hk : k < w1.heap.size
      · exact .inr fun cells => .inr fun h => by have := (hown.lt k h).1; omega
      · exact .inl hk)
    have HOWN := As.mk hown
    clear h1 h2 hE1 hown hB2
    obtain ⟨Au, cu, rfl, _⟩ := HOWN.out.shape
    go_wp2_with fail
    refine hsort.mono ?_
    rintro e w3 ⟨rfl, hg, xs, hp, hso, hrd⟩
    have hst : Stays w2 w3 (Old w1.heap.size) AnyB := (Stays.grown hg _ fun g t cells fr hgb hh ho => by
      have h1 := (HOWN.out.lt g hgb).1
      have h2 : g < w1.heap.size := ho
      omega).trans (Stays.any _ _)
    have HR : As (RdZ w3 (Old w3.heap.size) (.slice Au l.length cu) xs) := ⟨RdL.move (hrd AnyB fun _ _ => trivial) (fun _ _ e => e.mv (hst.trans (Stays.old w3 _))) (Stays.old w3 _)⟩
    have HP := As.mk hp
    have HS : As (xs.Pairwise fun x y => ¬ rlex y.row x.row < 0) := ⟨hso.imp fun h => by omega⟩
    have HB3 : As (Below w.heap.size w w3) := ⟨HB2.out.grown hg HB2.out.size fun k hk => Nat.le_trans HB1.out.size (HOWN.out.lt k hk).1⟩
    have hxl : xs.length = l.length := hp.length_eq
    clear hg hp hso hrd hst hsort
    go_wp2_with fail
    go_loopg [4, 5, 6, 7, 8, 9] xs.length (fun g s4 s5 _ _ _ _ wr => ∃ (p : Nat) (outs : List GE), p ≤ xs.length ∧ xs.length - p ≤ g ∧ outs.length ≤ p ∧ As (RdZ wr (Old w3.heap.size) s4 (xs.drop p)) ∧ As (OwnL 2 (EE wr (Fresh w3.heap.size [96])) 66 wr w3.heap.size s5 outs) ∧ As (MkSt xs p outs) ∧ As (Below w3.heap.size w3 wr))
    case atStart => exact ⟨0, [], by omega, by omega, by simp, ⟨by rw [List.drop_zero]; exact HR.out⟩, ⟨OwnL.nil _ _ _ _ _⟩, ⟨MkSt.first xs⟩, ⟨Below.refl _ _⟩⟩
    case round =>
      obtain ⟨p, outs, hpl, hg, hol, HRD, HO, HM, HBW⟩ := hrel
      obtain ⟨A4, c4, rfl, hc4⟩ := HRD.out.shape
      by_cases hlt : p < xs.length
      · have hdl : (xs.drop p).length = xs.length - p := List.length_drop
        obtain ⟨x0, hx0⟩ : ∃ x, (xs.drop p)[0]? = some x := ⟨_, List.getElem?_eq_getElem (by omega)⟩
        have HDL := As.mk hdl
        have HDR : As (∀ x ∈ xs.drop p, RowOk x.row ∧ fair x.w = true) := ⟨fun x hx => by
          have hm := HP.out.mem_iff.1 (List.mem_of_mem_drop hx)
          exact ⟨⟨(HOK.out x hm).2, HV.out x hm⟩, (HOK.out x hm).1⟩⟩
        have HDS : As ((xs.drop p).Pairwise fun x y => ¬ rlex y.row x.row < 0) := ⟨(HS.out.imp fun h => by omega).sublist (List.drop_sublist _ _)⟩
        have HDD : As (∀ n, (xs.drop p).drop n = xs.drop (p + n)) := ⟨fun n => List.drop_drop⟩
        generalize hrest : xs.drop p = rest at *
        have HRE := As.mk hrest
        clear hrest
        have hrl : 0 < rest.length := by have := HDL.out; omega
        have hrl2 : rest.length ≤ 4294967296 := by have := HDL.out; omega
        have hrz : (0 : Int) < (rest.length : Int) := by omega
        obtain ⟨b0, o0, c0', A0, d0, hv, hb0, hx0w, hx0r, e0, e1⟩ := HRD.out.ent hx0
        injection hv with hA _ hcc
        subst hA hcc
        simp only [Nat.zero_mul, Nat.add_zero] at e0 e1
        have HX0 := As.mk hx0
        have HX0R := As.mk (hx0r.mv (Stays.any _ _))
        have HE01 := As.mk (And.intro e0 e1)
        clear hx0 hx0r hx0w hdl e0 e1
        generalize hwo : wr = wo at *
        clear hwo
        obtain ⟨x0r, x0w⟩ := x0
        simp only at *
        go_wp2_with fail
        go_loopg [7] rest.length (fun g s7 wr => ∃ (n : Nat), n ≤ rest.length ∧ rest.length - n ≤ g ∧ s7 = .int .i64 n ∧ As (Below wo.heap.size wo wr) ∧ As (∀ x ∈ rest.take n, x.row = x0r) ∧
          As (wr.heap[wo.heap.size]? = some (.cells #[.int .i64 (sumI GE.w (rest.take n) / 18446744073709551616), .int .u64 (sumI GE.w (rest.take n) % 18446744073709551616)] 116 (0, 0))))
        case atStart => exact ⟨0, by omega, by omega, by go_num, ⟨(Below.refl _ _).alloc (Nat.le_refl _) _⟩, ⟨by simp⟩, ⟨heap_alloc_new _ _⟩⟩
        case round =>
          obtain ⟨n, hnl, hg2, rfl, HBI, HEQ, HSB⟩ := hrel
          have HSZ := As.mk HBI.out.size
          have HRW : As (RdZ wr AnyB (.slice (some ⟨b0, o0, none⟩) rest.length c4) rest) := ⟨(HRD.out.ext HBI.out).mv (Stays.any _ _)⟩
          have f0 := (HBI.out.cell (p := ⟨b0, o0, none⟩) hb0).trans HE01.out.1
          have f1 := (HBI.out.cell (p := ⟨b0, o0 + 1, none⟩) hb0).trans HE01.out.2
          by_cases hlt2 : n < rest.length
          · have hltz2 : (n : Int) < (rest.length : Int) := by omega
            obtain ⟨x1, hx1⟩ : ∃ x, rest[n]? = some x := ⟨_, List.getElem?_eq_getElem hlt2⟩
            obtain ⟨b1, o1, c1', A1, d1, hv, hb1, hx1w, hx1r, k0, k1⟩ := HRW.out.ent hx1
            injection hv with hA _ hcc
            injection hA with hA
            injection hA with hA1 hA2 _
            subst hA1 hA2
            clear hcc
            have HCM := fun W (hE : Below wr.heap.size wr W) => byRow_any A0 A1 d0 d1 x0w x1.w x0r x1.row W ((HX0R.out.ext HBI.out).ext hE) (hx1r.ext hE)
            have hx0m := HDR.out ⟨x0r, x0w⟩ (List.mem_of_getElem? HX0.out)
            have hx1m := HDR.out x1 (List.mem_of_getElem? hx1)
            have HRC : As (rcmp x0r x1.row = rlex x0r x1.row) := ⟨rcmp_lex hx0m.1.1 hx1m.1.1⟩
            have HX1 := As.mk hx1
            have HR0 := As.mk hx0m
            have HR1 := As.mk hx1m
            have HI1 := As.mk hx1w
            clear hx1 hx1w hx1r hx0m hx1m
            obtain ⟨x1r, x1w⟩ := x1
            simp only at *
            have gf0 := gc f0
            have gf1 := gc f1
            have gk0 := gc k0
            have gk1 := gc k1
            have hcmp := fun (m : Nat) (os : Array Obj) => HCM (grow (wr.drewN m) os) (Ext.below ⟨m, os, rfl⟩)
            generalize rcmp x0r x1r = q at *
            clear HCM
            by_cases hq : q = 0
            · subst hq
              have hbnd : As (∀ x ∈ rest.take n, fair x.w = true) := ⟨fun x hx => (HDR.out x (List.mem_of_mem_take hx)).2⟩
              have hb2 := sum_bound hbnd.out
              rw [List.length_take] at hb2
              have HTK : As (rest.take (n + 1) = rest.take n ++ [⟨x1r, x1w⟩]) := ⟨by rw [List.take_add_one, HX1.out]; rfl⟩
              have HSUM : As (sumI GE.w (rest.take (n + 1)) = sumI GE.w (rest.take n) + x1w) := ⟨by rw [HTK.out, sumI_app]; show _ + (x1w + 0) = _; omega⟩
              have HEQ2 : As (∀ x ∈ rest.take (n + 1), x.row = x0r) := ⟨fun x hx => by
                rw [HTK.out] at hx
                rcases List.mem_append.1 hx with hx | hx
                · exact HEQ.out x hx
                · rw [List.mem_singleton.1 hx]
                  exact (rlex_eq HR0.out.1.2 HR1.out.1.2 (rsound_at HR0.out.1.1).2 (rsound_at HR1.out.1.1).2 HRC.out.symm).symm⟩
              have hta := fun W => totAdd_any (sumI GE.w (rest.take n)) x1w W (by omega) HI1.out
              rw [← HSUM.out] at hta
              unfold tot at hta
              have HNEW := As.mk hta
              clear hta hb2 hbnd
              generalize sumI GE.w (rest.take n) / 18446744073709551616 = hi0 at *
              generalize sumI GE.w (rest.take n) % 18446744073709551616 = lo0 at *
              generalize hhi1 : sumI GE.w (rest.take (n + 1)) / 18446744073709551616 = hi1 at *
              generalize hlo1 : sumI GE.w (rest.take (n + 1)) % 18446744073709551616 = lo1 at *
              have HH1 := As.mk hhi1
              have HL1 := As.mk hlo1
              clear hhi1 hlo1
              go_wp2_with fail
              (refine wp_region_quiet_grown (by assumption) (by kernel_rfl) ?_; (repeat (go_big_quiet_step ( (go_at_call 57; exact grown_ext (hcmp _ _)) ))); refine wpQuiet_nil ?_; intro _ hw'; obtain ⟨⟨nq, osq⟩, hw''⟩ := hw'; subst hw'')
              have hE4 : Ext wr (grow (wr.drewN nq) osq) := ⟨nq, osq, rfl⟩
              generalize grow (wr.drewN nq) osq = w4 at *
              have HE4 := As.mk hE4
              have HSB4 := As.mk ((hE4.block _ (Array.getElem?_eq_some_iff.1 HSB.out).1).trans HSB.out)
              have k1' := hE4.cell k1
              obtain ⟨t0, t1, z0, z1⟩ := pair_cells HSB4.out
              clear hE4 gf0 gf1 gk0 gk1 hcmp
              go_wp2_with fail
              go_region_law (go_simp; go_at_call 58; refine (HNEW.out _).mono ?_; rintro e w5 ⟨rfl, hE5⟩; have HE5 : As (Ext w4 w5) := ⟨Ext.trans (by first | exact Ext.refl _ | exact Ext.drew (Ext.refl _)) hE5⟩; have HSB5 := As.mk ((hE5.block _ (Array.getElem?_eq_some_iff.1 HSB4.out).1).trans HSB4.out); obtain ⟨s0, s1, y0, y1⟩ := pair_cells HSB5.out; clear hE5)
              all_goals (go_wp2; go_roundg (rest.length - (n + 1)); (case measure => omega); (case rel => exact ⟨n + 1, by omega, by omega, by go_num, ⟨((((HBI.out.trans (HE4.out.below.mono HSZ.out)).trans (HE5.out.below.mono (Nat.le_trans HSZ.out HE4.out.size))).setCell (p := ⟨wo.heap.size, 0, none⟩) (Nat.le_refl _) _).setCell (p := ⟨wo.heap.size, 1, none⟩) (Nat.le_refl _) _)⟩, HEQ2, ⟨by rw [HH1.out, HL1.out]; exact set2_heap HSB5.out⟩⟩))
            · have hqb : (q == 0) = false := beq_eq_false_iff_ne.2 hq
              have HQ := As.mk hq
              go_wp2_with fail
              (refine wp_region_quiet_grown (by assumption) (by kernel_rfl) ?_; (repeat (go_big_quiet_step ( (go_at_call 57; exact grown_ext (hcmp _ _)) ))); refine wpQuiet_nil ?_; intro _ hw'; obtain ⟨⟨nq, osq⟩, hw''⟩ := hw'; subst hw'')
              have hE4 : Ext wr (grow (wr.drewN nq) osq) := ⟨nq, osq, rfl⟩
              generalize grow (wr.drewN nq) osq = w4 at *
              have HSB4 := As.mk ((hE4.block _ (Array.getElem?_eq_some_iff.1 HSB.out).1).trans HSB.out)
              have HB4 : As (Below wo.heap.size wo w4) := ⟨HBI.out.trans (hE4.below.mono HSZ.out)⟩
              obtain ⟨t0, t1, z0, z1⟩ := pair_cells HSB4.out
              have HN0 : As (0 < n) := ⟨by
                rcases Nat.eq_zero_or_pos n with h0 | h0
                · subst h0
                  have := HX1.out
                  rw [HX0.out] at this
                  injection this with this
                  injection this with this _
                  exact absurd (HRC.out.trans (by rw [this]; exact rlex_cmp.refl _)) HQ.out
                · exact h0⟩
              have HTAIL : As (∀ y ∈ rest.drop n, rlex x0r y.row < 0) := ⟨fun y hy => by
                have hlt0 : rlex x0r x1r < 0 := by
                  obtain ⟨g1, g2⟩ := List.getElem?_eq_some_iff.1 HX0.out
                  obtain ⟨g3, g4⟩ := List.getElem?_eq_some_iff.1 HX1.out
                  have h0 := List.pairwise_iff_getElem.1 HDS.out 0 n g1 g3 HN0.out
                  rw [g2, g4] at h0
                  have h0 : ¬ rlex x1r x0r < 0 := by first | exact h0 | exact Int.not_lt.2 h0
                  have h1 := rlex_cmp.flip x1r x0r
                  have h2 := HQ.out
                  rw [HRC.out] at h2
                  omega
                obtain ⟨j, hj⟩ := List.mem_iff_getElem?.1 hy
                rw [List.getElem?_drop] at hj
                rcases Nat.eq_zero_or_pos j with h0 | h0
                · subst h0
                  rw [Nat.add_zero, HX1.out] at hj
                  rw [← Option.some.inj hj]; exact hlt0
                · obtain ⟨g3, g4⟩ := List.getElem?_eq_some_iff.1 HX1.out
                  obtain ⟨g5, g6⟩ := List.getElem?_eq_some_iff.1 hj
                  have h0 := List.pairwise_iff_getElem.1 HDS.out n (n + j) g3 g5 (by omega)
                  rw [g4, g6] at h0
                  have h0 : ¬ rlex y.row x1r < 0 := by first | exact h0 | exact Int.not_lt.2 h0
                  have h1 := rlex_cmp.flip y.row x1r
                  exact rlex_cmp.lt_of_lt_of_le hlt0 (by omega)⟩
              clear hE4 gf0 gf1 gk0 gk1 hcmp hq
              have hbnd : As (∀ x ∈ rest.take n, fair x.w = true) := ⟨fun x hx => (HDR.out x (List.mem_of_mem_take hx)).2⟩
              have hb2 := sum_bound hbnd.out
              rw [List.length_take] at hb2
              have HW := As.mk (totWeight_any (sumI GE.w (rest.take n)) w4 (by omega))
              have HOKR := As.mk (HDR.out ⟨x0r, x0w⟩ (List.mem_of_getElem? HX0.out)).1
              have hnp : 0 < n := HN0.out
              have hpn : p + n ≤ xs.length := by have := HDL.out; omega
              have HGRP : As (∀ x ∈ (xs.drop p).take n, x.row = x0r) := ⟨by rw [HRE.out]; exact HEQ.out⟩
              have HTL : As (∀ y ∈ xs.drop (p + n), rlex x0r y.row < 0) := ⟨by rw [← HDD.out]; exact HTAIL.out⟩
              have HSW : As (sumI GE.w (rest.take n) = sumI GE.w ((xs.drop p).take n)) := ⟨by rw [HRE.out]⟩
              unfold tot at HW
              clear hb2 hbnd
              generalize hs : sumI GE.w (rest.take n) = s at *
              have HSS := As.mk hs
              clear hs
              go_wp2_with fail
              refine HW.out.mono ?_
              rintro e w6 ⟨xw, rfl, hxf, hE6⟩
              have HB6 : As (Below wo.heap.size wo w6) := ⟨HB4.out.trans (hE6.below.mono HB4.out.size)⟩
              have HXF := As.mk hxf
              clear hxf hE6 HW
              cases hfr : fair s with
              | false =>
                have HOV : As (overL l = true) := ⟨over_at HP.out (x := ⟨x0r, x0w⟩) (by have := List.mem_of_getElem? HX0.out; rw [← HRE.out] at this; exact List.mem_of_mem_drop this) (by show fair (zw xs x0r) = false; rw [group_sum HM.out hnp hpn HGRP.out HTL.out, ← HSW.out]; exact hfr)⟩
                go_wp2_with fail
                go_ret2
                exact MakePost.over (HB3.out.trans ((HBW.out.trans (HB6.out.mono HBW.out.size)).mono HB3.out.size)) HB0.out HOV.out
              | true =>
                obtain rfl : xw = s := HXF.out hfr
                have HST := As.mk (HM.out.step hnp hpn HOKR.out HGRP.out HTL.out HSW.out hfr)
                have HR6 : As (RdZ w6 (Old w3.heap.size) (.slice (some ⟨b0, o0, none⟩) rest.length c4) rest) := ⟨HRD.out.ext HB6.out⟩
                have HO6 : As (OwnL 2 (EE w6 (Fresh w3.heap.size [96])) 66 w6 w3.heap.size u5 outs) := ⟨(HO.out.below HB6.out).imp fun _ _ h => EE.mv h (Stays.below HB6.out _)⟩
                have HBW6 := As.mk (HBW.out.trans (HB6.out.mono HBW.out.size))
                obtain ⟨Ac, hslc, hrc⟩ := RdL.from Tryz.underlying34 HIE.out HZE.out HR6.out n hnl .i64
                by_cases hs0 : xw = 0
                · subst hs0
                  rw [if_pos rfl] at HST
                  go_wp2_with fail
                  go_roundg (xs.length - (p + n))
                  case measure => omega
                  case rel => exact ⟨p + n, outs, hpn, by omega, by omega, ⟨by rw [← HDD.out]; exact hrc⟩, HO6, HST, HBW6⟩
                · have hsb : (xw != 0) = true := by simpa using hs0
                  rw [if_neg hs0] at HST
                  have HXI := As.mk (fair_i64 hfr)
                  have f0' := (HB6.out.cell (p := ⟨b0, o0, none⟩) hb0).trans HE01.out.1
                  have HCL := As.mk (cloneRow_any (.slice A0 x0r.length d0) x0r w6 (HX0R.out.ext HB6.out))
                  have HLZ : As (outs.length < 4294967296) := ⟨by omega⟩
                  have HRC := As.mk hrc
                  clear hs0 hrc
                  go_wp2_with (first | (go_at_call 60; refine HCL.out.mono ?_; rintro e w7 ⟨u7, rfl, hu7, hB7⟩; obtain ⟨A7, d7, rfl, _⟩ := hu7.shape; have HU7 := As.mk (hu7.mv (Stays.mono (ok' := Fresh w3.heap.size [96]) fun k t h => ⟨Nat.le_trans HBW6.out.size h.1, h.2⟩)); have HO7 := As.mk ((HO6.out.below hB7).imp fun _ _ h => EE.mv h (Stays.below hB7 _)); have HBW7 := As.mk (HBW6.out.trans (hB7.mono HBW6.out.size)); have HR7 : As (RdZ w7 (Old w3.heap.size) (.slice Ac (rest.length - n) (c4 - n)) (rest.drop n)) := ⟨RdZ.ext HRC.out hB7⟩; have hbz := HBW7.out.size; clear hu7 hB7) | (at_builtin; refine OwnL.append (W := w7) w3.heap.size rfl (.tmp 52) (.tmp 60) 35 66 _ 2 32 rfl Tryz.underlying35 info_entry rfl (by decide) (by decide) u5 outs ⟨x0r, xw⟩ [.slice A7 x0r.length d7, .int .i64 xw] rfl rfl (E := EE w7 (Fresh w3.heap.size [96])) ⟨_, rfl, HXI.out, HU7.out⟩ rfl (by simp [Value.oneCell']) HO7.out HBW7.out hbz HLZ.out rfl ?_; intro v1 w8 hown hb' hg' hat; have HO8 := As.mk (hown.imp fun _ _ h => EE.mv h (HO7.out.rowStays hg' (ok := Fresh w3.heap.size [96]) (fun k h => by have := h.2; simp at this))); have HBW8 := As.mk hb'; have HR8 : As (RdZ w8 (Old w3.heap.size) (.slice Ac (rest.length - n) (c4 - n)) (rest.drop n)) := ⟨RdZ.mv HR7.out (Stays.grown hg' _ fun g t cells fr hgb hh ho => by have h1 := (HO7.out.lt g hgb).1; have h2 : g < w3.heap.size := ho; omega)⟩; clear hown hb' hg' hat))
                  go_roundg (xs.length - (p + n))
                  case measure => omega
                  case rel => exact ⟨p + n, outs ++ [⟨x0r, xw⟩], hpn, by omega, by rw [List.length_append]; simp; omega, ⟨by rw [← HDD.out]; exact HR8.out⟩, HO8, HST, HBW8⟩
          · have hltz2 : ¬ (n : Int) < (rest.length : Int) := by omega
            have hnb : decide ((n : Int) < (rest.length : Int)) = false := decide_eq_false hltz2
            have hnb2 : decide (n < rest.length) = false := decide_eq_false hlt2
            have HN0 : As (0 < n) := ⟨by omega⟩
            have HTAIL : As (∀ y ∈ rest.drop n, rlex x0r y.row < 0) := ⟨fun y hy => by rw [List.drop_eq_nil_of_le (by omega)] at hy; cases hy⟩
            go_wp2_with fail
            (refine wp_region_quiet_grown (by assumption) (by kernel_rfl) ?_; (repeat (go_big_quiet_step ( fail ))); refine wpQuiet_nil ?_; intro _ hw'; obtain ⟨⟨nq, osq⟩, hw''⟩ := hw'; subst hw'')
            have hE4 : Ext wr (grow (wr.drewN nq) osq) := ⟨nq, osq, rfl⟩
            generalize grow (wr.drewN nq) osq = w4 at *
            have HSB4 := As.mk ((hE4.block _ (Array.getElem?_eq_some_iff.1 HSB.out).1).trans HSB.out)
            have HB4 : As (Below wo.heap.size wo w4) := ⟨HBI.out.trans (hE4.below.mono HSZ.out)⟩
            obtain ⟨t0, t1, z0, z1⟩ := pair_cells HSB4.out
            clear hE4 hnb hnb2
            have hbnd : As (∀ x ∈ rest.take n, fair x.w = true) := ⟨fun x hx => (HDR.out x (List.mem_of_mem_take hx)).2⟩
            have hb2 := sum_bound hbnd.out
            rw [List.length_take] at hb2
            have HW := As.mk (totWeight_any (sumI GE.w (rest.take n)) w4 (by omega))
            have HOKR := As.mk (HDR.out ⟨x0r, x0w⟩ (List.mem_of_getElem? HX0.out)).1
            have hnp : 0 < n := HN0.out
            have hpn : p + n ≤ xs.length := by have := HDL.out; omega
            have HGRP : As (∀ x ∈ (xs.drop p).take n, x.row = x0r) := ⟨by rw [HRE.out]; exact HEQ.out⟩
            have HTL : As (∀ y ∈ xs.drop (p + n), rlex x0r y.row < 0) := ⟨by rw [← HDD.out]; exact HTAIL.out⟩
            have HSW : As (sumI GE.w (rest.take n) = sumI GE.w ((xs.drop p).take n)) := ⟨by rw [HRE.out]⟩
            unfold tot at HW
            clear hb2 hbnd
            generalize hs : sumI GE.w (rest.take n) = s at *
            have HSS := As.mk hs
            clear hs
            go_wp2_with fail
            refine HW.out.mono ?_
            rintro e w6 ⟨xw, rfl, hxf, hE6⟩
            have HB6 : As (Below wo.heap.size wo w6) := ⟨HB4.out.trans (hE6.below.mono HB4.out.size)⟩
            have HXF := As.mk hxf
            clear hxf hE6 HW
            cases hfr : fair s with
            | false =>
              have HOV : As (overL l = true) := ⟨over_at HP.out (x := ⟨x0r, x0w⟩) (by have := List.mem_of_getElem? HX0.out; rw [← HRE.out] at this; exact List.mem_of_mem_drop this) (by show fair (zw xs x0r) = false; rw [group_sum HM.out hnp hpn HGRP.out HTL.out, ← HSW.out]; exact hfr)⟩
              go_wp2_with fail
              go_ret2
              exact MakePost.over (HB3.out.trans ((HBW.out.trans (HB6.out.mono HBW.out.size)).mono HB3.out.size)) HB0.out HOV.out
            | true =>
              obtain rfl : xw = s := HXF.out hfr
              have HST := As.mk (HM.out.step hnp hpn HOKR.out HGRP.out HTL.out HSW.out hfr)
              have HR6 : As (RdZ w6 (Old w3.heap.size) (.slice (some ⟨b0, o0, none⟩) rest.length c4) rest) := ⟨HRD.out.ext HB6.out⟩
              have HO6 : As (OwnL 2 (EE w6 (Fresh w3.heap.size [96])) 66 w6 w3.heap.size u5 outs) := ⟨(HO.out.below HB6.out).imp fun _ _ h => EE.mv h (Stays.below HB6.out _)⟩
              have HBW6 := As.mk (HBW.out.trans (HB6.out.mono HBW.out.size))
              obtain ⟨Ac, hslc, hrc⟩ := RdL.from Tryz.underlying34 HIE.out HZE.out HR6.out n hnl .i64
              by_cases hs0 : xw = 0
              · subst hs0
                rw [if_pos rfl] at HST
                go_wp2_with fail
                go_roundg (xs.length - (p + n))
                case measure => omega
                case rel => exact ⟨p + n, outs, hpn, by omega, by omega, ⟨by rw [← HDD.out]; exact hrc⟩, HO6, HST, HBW6⟩
              · have hsb : (xw != 0) = true := by simpa using hs0
                rw [if_neg hs0] at HST
                have HXI := As.mk (fair_i64 hfr)
                have f0' := (HB6.out.cell (p := ⟨b0, o0, none⟩) hb0).trans HE01.out.1
                have HCL := As.mk (cloneRow_any (.slice A0 x0r.length d0) x0r w6 (HX0R.out.ext HB6.out))
                have HLZ : As (outs.length < 4294967296) := ⟨by omega⟩
                have HRC := As.mk hrc
                clear hs0 hrc
                go_wp2_with (first | (go_at_call 60; refine HCL.out.mono ?_; rintro e w7 ⟨u7, rfl, hu7, hB7⟩; obtain ⟨A7, d7, rfl, _⟩ := hu7.shape; have HU7 := As.mk (hu7.mv (Stays.mono (ok' := Fresh w3.heap.size [96]) fun k t h => ⟨Nat.le_trans HBW6.out.size h.1, h.2⟩)); have HO7 := As.mk ((HO6.out.below hB7).imp fun _ _ h => EE.mv h (Stays.below hB7 _)); have HBW7 := As.mk (HBW6.out.trans (hB7.mono HBW6.out.size)); have HR7 : As (RdZ w7 (Old w3.heap.size) (.slice Ac (rest.length - n) (c4 - n)) (rest.drop n)) := ⟨RdZ.ext HRC.out hB7⟩; have hbz := HBW7.out.size; clear hu7 hB7) | (at_builtin; refine OwnL.append (W := w7) w3.heap.size rfl (.tmp 52) (.tmp 60) 35 66 _ 2 32 rfl Tryz.underlying35 info_entry rfl (by decide) (by decide) u5 outs ⟨x0r, xw⟩ [.slice A7 x0r.length d7, .int .i64 xw] rfl rfl (E := EE w7 (Fresh w3.heap.size [96])) ⟨_, rfl, HXI.out, HU7.out⟩ rfl (by simp [Value.oneCell']) HO7.out HBW7.out hbz HLZ.out rfl ?_; intro v1 w8 hown hb' hg' hat; have HO8 := As.mk (hown.imp fun _ _ h => EE.mv h (HO7.out.rowStays hg' (ok := Fresh w3.heap.size [96]) (fun k h => by have := h.2; simp at this))); have HBW8 := As.mk hb'; have HR8 : As (RdZ w8 (Old w3.heap.size) (.slice Ac (rest.length - n) (c4 - n)) (rest.drop n)) := ⟨RdZ.mv HR7.out (Stays.grown hg' _ fun g t cells fr hgb hh ho => by have h1 := (HO7.out.lt g hgb).1; have h2 : g < w3.heap.size := ho; omega)⟩; clear hown hb' hg' hat))
                go_roundg (xs.length - (p + n))
                case measure => omega
                case rel => exact ⟨p + n, outs ++ [⟨x0r, xw⟩], hpn, by omega, by rw [List.length_append]; simp; omega, ⟨by rw [← HDD.out]; exact HR8.out⟩, HO8, HST, HBW8⟩
      · obtain rfl : p = xs.length := by omega
        rw [List.drop_length] at *
        have HZ2 : As (RdZ2 wr w3.heap.size u5 outs) := ⟨HO.out.rd fun k hk => ⟨hk, by simp⟩⟩
        go_wp2_with fail
        go_ret2
        exact MakePost.good (HB3.out.trans (HBW.out.mono HB3.out.size)) HB0.out (HM.out.notOver HP.out) (HM.out.made HP.out) (HZ2.out.low HB3.out.size) (by omega)
end Go.Proofs.YtflckpfpgpfjlaaGreatDoor
