/- The walk of spine.merged: two batches as one. -/
import Derived.Test.YtmpndmjfdijamaaGreatDoorOrd
import Derived.Test.YtmpndmjfdijamaaGreatDoorCut
import Derived.Deep.RegionLaw
set_option linter.unusedVariables false
set_option linter.unusedSimpArgs false
namespace Go.Proofs.YtmpndmjfdijamaaGreatDoor
open Go.RowKit Go.Sort
/-- Two items of one row as one. -/
def GI.add (x y : GI) : GI := ⟨x.key, x.enc, x.row, wrap64 (x.size + y.size)⟩
/-- spine.merged -/
def mergeL : List GI → List GI → List GI
  | [], ys => ys
  | xs, [] => xs
  | x :: xs, y :: ys =>
    if x.cmp y < 0 then x :: mergeL xs (y :: ys)
    else if 0 < x.cmp y then y :: mergeL (x :: xs) ys
    else if (x.add y).size ≠ 0 then x.add y :: mergeL xs ys
    else mergeL xs ys
termination_by xs ys => xs.length + ys.length
set_option maxHeartbeats 4000000 in
set_option maxRecDepth 100000 in
theorem merged_any (v u : Value) (xs ys : List GI) (ok : Blk) (w : World) (hx : RdT w ok v xs) (hy : RdT w ok u ys) (hl : xs.length + ys.length ≤ 4294967296) :
    Calls Tryz.prog 48 #[v, u] w fun e w' => ∃ v', e = .returned v' ∧ OwnL 4 (EIt w' ok) 72 w' w.heap.size v' (mergeL xs ys) ∧ Below w.heap.size w w' := by
  have mixed := mixed
  obtain ⟨A, c, rfl, hc⟩ := hx.shape
  obtain ⟨B, d, rfl, hd⟩ := hy.shape
  obtain ⟨i0, hi, hzz⟩ := Option.map_eq_some_iff.1 info_item
  simp only [Prod.mk.injEq] at hzz
  obtain ⟨hz0, hz1, hz2⟩ := hzz
  have hmk := fun W => run_make (P := Tryz.prog) W 70 72 i0 _ Tryz.underlying70 hi hz0 .i64 .i64 0 ((xs.length : Int) + (ys.length : Int)) (by omega) (by omega) (by rw [hz2]; omega) (by omega)
  rw [show ((xs.length : Int) + (ys.length : Int)).toNat = xs.length + ys.length by omega] at hmk
  rw [hz1] at hmk
  have hsz := size_madeCells (Value.agg #[.string ⟨#[]⟩, .string ⟨#[]⟩, .slice none 0 0, .int .i64 0]).cells ((xs.length + ys.length) * 4)
  generalize madeCells (Value.agg #[.string ⟨#[]⟩, .string ⟨#[]⟩, .slice none 0 0, .int .i64 0]).cells ((xs.length + ys.length) * 4) = cur at hmk hsz
  have HX := As.mk hx
  have HY := As.mk hy
  have HO := As.mk (OwnL.made 4 (EIt w ok) 72 w w.heap.size cur (xs.length + ys.length) (Nat.le_refl _) (by simp only [maxLen]; omega) hsz)
  have HB := As.mk ((Below.refl w.heap.size w).alloc (Nat.le_refl _) (.cells cur 72))
  have hz4 := hz1
  have hi0 := hi
  have HZ4 := As.mk hz4
  have HI0 := As.mk hi0
  clear hx hy hz0 hz1 hz2 hi hsz hz4 hi0
  go_enter Tryz.func48, Tryz.ntmps48
  go_wp2
  go_loopg [0, 1, 5, 6, 7] (xs.length + ys.length) (fun g s0 s1 s5 _ _ wr => ∃ (ps qs zs : List GI), ps.length + qs.length ≤ g ∧ As (RdT w ok s0 ps) ∧ As (RdT w ok s1 qs) ∧ As (OwnL 4 (EIt w ok) 72 wr w.heap.size s5 zs) ∧ As (Below w.heap.size w wr) ∧ As (zs ++ mergeL ps qs = mergeL xs ys) ∧ As (zs.length + ps.length + qs.length ≤ xs.length + ys.length))
  case atStart => exact ⟨xs, ys, [], by omega, HX, HY, HO, HB, ⟨rfl⟩, ⟨by simp⟩⟩
  case round =>
    clear HX HY HO HB hc hd
    obtain ⟨ps, qs, zs, hg, HX, HY, HO, HB, HA, HL⟩ := hrel
    obtain ⟨A, c, hv, hc⟩ := HX.out.shape
    obtain ⟨B, d, hu, hd⟩ := HY.out.shape
    subst hv hu
    have hla := HX.out.len
    have hlb := HY.out.len
    cases ps with
    | nil =>
      have hl0 : ¬ (0 : Int) < ((0 : Nat) : Int) := by omega
      have HM : As (zs ++ [] ++ qs = mergeL xs ys) := ⟨by rw [← HA.out]; cases qs <;> simp [mergeL]⟩
      have HLq : As (zs.length + ([] : List GI).length + qs.length ≤ 4294967296) := ⟨by have := HL.out; simp at this ⊢; omega⟩
      have HX1 := As.mk (RdL.move (E' := EIt w ok) HX.out (fun _ _ h => h) (Stays.below HB.out ok))
      have HY1 := As.mk (RdL.move (E' := EIt w ok) HY.out (fun _ _ h => h) (Stays.below HB.out ok))
      have hbz := HB.out.size
      go_wp2_with (first | (at_builtin; refine OwnL.appends w.heap.size rfl (.tmp 73) (.tmp 74) 70 72 _ 4 64 rfl Tryz.underlying70 info_item rfl (by decide) (by decide) u5 zs [] A _ c rfl rfl HX1.out HO.out HB.out hbz (by have := HLq.out; omega) ?_; intro v1 w1 hown hb' hg' hat; have HY2 := As.mk (RdL.move (E' := EIt w ok) HY.out (fun _ _ h => h) (Stays.below hb' ok)); have hbz2 := hb'.size; have HO2 := As.mk hown; have HB2 := As.mk hb'; clear hown hb' hg' hat) | (at_builtin; refine OwnL.appends w.heap.size rfl (.tmp 75) (.tmp 76) 70 72 _ 4 64 rfl Tryz.underlying70 info_item rfl (by decide) (by decide) v1 (zs ++ []) qs B _ d rfl rfl HY2.out HO2.out HB2.out hbz2 (by have := HLq.out; simp at this ⊢; omega) ?_; intro v2 w2 hown hb' hg' hat))
      go_ret
      refine ⟨_, rfl, ?_, hb'⟩
      rw [← HM.out]
      exact hown.imp fun _ _ h => h.mv (Stays.below hb' ok)
    | cons x ps =>
      cases qs with
      | nil =>
        have hl0 : (0 : Int) < (ps.length : Int) + 1 := by omega
        have hl1 : ¬ (0 : Int) < ((0 : Nat) : Int) := by omega
        have HM : As (zs ++ (x :: ps) ++ [] = mergeL xs ys) := ⟨by rw [← HA.out]; simp [mergeL]⟩
        have HLq : As (zs.length + (x :: ps).length + ([] : List GI).length ≤ 4294967296) := ⟨by have := HL.out; simp at this ⊢; omega⟩
        have HX1 := As.mk (RdL.move (E' := EIt w ok) HX.out (fun _ _ h => h) (Stays.below HB.out ok))
        have HY1 := As.mk (RdL.move (E' := EIt w ok) HY.out (fun _ _ h => h) (Stays.below HB.out ok))
        have hbz := HB.out.size
        go_wp2_with (first | (at_builtin; refine OwnL.appends w.heap.size rfl (.tmp 73) (.tmp 74) 70 72 _ 4 64 rfl Tryz.underlying70 info_item rfl (by decide) (by decide) u5 zs (x :: ps) A _ c rfl rfl HX1.out HO.out HB.out hbz (by have := HLq.out; omega) ?_; intro v1 w1 hown hb' hg' hat; have HY2 := As.mk (RdL.move (E' := EIt w ok) HY.out (fun _ _ h => h) (Stays.below hb' ok)); have hbz2 := hb'.size; have HO2 := As.mk hown; have HB2 := As.mk hb'; clear hown hb' hg' hat) | (at_builtin; refine OwnL.appends w.heap.size rfl (.tmp 75) (.tmp 76) 70 72 _ 4 64 rfl Tryz.underlying70 info_item rfl (by decide) (by decide) v1 (zs ++ (x :: ps)) [] B _ d rfl rfl HY2.out HO2.out HB2.out hbz2 (by have := HLq.out; simp at this ⊢; omega) ?_; intro v2 w2 hown hb' hg' hat))
        go_ret
        refine ⟨_, rfl, ?_, hb'⟩
        rw [← HM.out]
        exact hown.imp fun _ _ h => h.mv (Stays.below hb' ok)
      | cons y qs =>
        obtain ⟨b, o, c', A1, d1, hv, hb, hxi, hxr, HXE, c0, c1, c2, c3⟩ := RdT.itm HX.out (j := 0) rfl
        injection hv with hA _ hcc
        subst hA
        obtain ⟨b2, o2, c2', A2, d2, hv2, hb2, hyi, hyr, HYE, e0, e1, e2, e3⟩ := RdT.itm HY.out (j := 0) rfl
        injection hv2 with hA2 _ hcc2
        subst hA2
        simp only [Nat.zero_mul, Nat.add_zero] at c0 c1 c2 c3 e0 e1 e2 e3
        clear hcc hcc2
        have f1 := fun W => compare_any A1 A2 x.row.length y.row.length d1 d2 x.key x.enc y.key y.enc x.size y.size W
        have hl0 : (0 : Int) < (ps.length : Int) + 1 := by omega
        have hl1 : (0 : Int) < (qs.length : Int) + 1 := by omega
        generalize hq : kcmp x.key x.enc y.key y.enc = q at f1
        have HQ := As.mk hq
        clear hq
        replace c0 := (HB.out.cell hb).trans c0; replace c1 := (HB.out.cell hb).trans c1; replace c2 := (HB.out.cell hb).trans c2; replace c3 := (HB.out.cell hb).trans c3
        replace e0 := (HB.out.cell hb2).trans e0; replace e1 := (HB.out.cell hb2).trans e1; replace e2 := (HB.out.cell hb2).trans e2; replace e3 := (HB.out.cell hb2).trans e3
        have g0 := gc c0; have g1 := gc c1; have g2 := gc c2; have g3 := gc c3
        have k0 := gc e0; have k1 := gc e1; have k2 := gc e2; have k3 := gc e3
        obtain ⟨AX, hcx, hrx⟩ := HX.out.from Tryz.underlying70 HI0.out HZ4.out 1 (by simp) .i64
        obtain ⟨AY, hcy, hry⟩ := HY.out.from Tryz.underlying70 HI0.out HZ4.out 1 (by simp) .i64
        have HRX := As.mk hrx
        have HRY := As.mk hry
        clear hrx hry
        by_cases hlt : q < 0
        · have hgt : ¬ 0 < q := by omega
          go_wp2
          (refine wp_region_quiet_grown (by assumption) (by kernel_rfl) ?_; (repeat (go_big_quiet_step ( (go_at_call 36; exact grown_ext (f1 _)) ))); refine wpQuiet_nil ?_; intro _ hw'; obtain ⟨⟨nq, osq⟩, hw''⟩ := hw'; subst hw'')
          clear g0 g1 g2 g3 k0 k1 k2 k3
          go_wp2
          generalize hw2 : grow (wr.drewN nq) osq = w2 at *
          have hE2 : Ext wr w2 := hw2 ▸ ⟨nq, osq, rfl⟩
          clear hw2
          replace c0 := hE2.cell c0; replace c1 := hE2.cell c1; replace c2 := hE2.cell c2; replace c3 := hE2.cell c3
          clear e0 e1 e2 e3
          have hcx' : ∀ W, (Instr.slice 70 (.slice (some ⟨b, o, none⟩) (ps.length + 1) c) (some (.int .i64 1)) none none).run Tryz.prog W = .ok (.slice AX ps.length (c - 1)) W := fun W => hcx W
          clear hcx hcy
          have HO2 := As.mk ((HO.out.ext hE2).ext (Ext.drew (Ext.refl w2)))
          have HB2 := As.mk (HB.out.trans (hE2.below.mono HB.out.size)).drew
          have hbz : w.heap.size ≤ w2.drew.heap.size := HB2.out.size
          have HLZ : As (zs.length < 4294967296) := ⟨by have := HL.out; simp at this; omega⟩
          go_region_law ((refine OwnL.append_step (W := w2.drew) w.heap.size rfl (.tmp 54) (.tmp 58) 70 72 _ 4 64 rfl Tryz.underlying70 info_item rfl (by decide) (by decide) u5 zs x [.string x.key, .string x.enc, .slice A1 x.row.length d1, .int .i64 x.size] rfl rfl (E := EIt w ok) HXE rfl (by simp [Value.oneCell']) HO2.out HB2.out hbz HLZ.out rfl ?_; intro v1 w3 hown hb' hg'))
          have HOUT := As.mk hown
          have HBUT := As.mk hb'
          clear hown hb' hg'
          go_wp2
          go_roundg (ps.length + (qs.length + 1))
          case measure => simp at hg; omega
          case rel => exact ⟨ps, y :: qs, zs ++ [x], by simp, HRX, HY, HOUT, HBUT, ⟨by rw [← HA.out, mergeL, if_pos (show x.cmp y < 0 from by unfold GI.cmp; rw [HQ.out]; exact hlt)]; simp⟩, ⟨by have := HL.out; simp at this ⊢; omega⟩⟩
        · by_cases hgt : 0 < q
          · have hlt' : ¬ q < 0 := hlt
            go_wp2
            (refine wp_region_quiet_grown (by assumption) (by kernel_rfl) ?_; (repeat (go_big_quiet_step ( (go_at_call 36; exact grown_ext (f1 _)) ))); refine wpQuiet_nil ?_; intro _ hw'; obtain ⟨⟨nq, osq⟩, hw''⟩ := hw'; subst hw'')
            clear g0 g1 g2 g3 k0 k1 k2 k3
            go_wp2
            generalize hw2 : grow (wr.drewN nq) osq = w2 at *
            have hE2 : Ext wr w2 := hw2 ▸ ⟨nq, osq, rfl⟩
            clear hw2
            replace e0 := hE2.cell e0; replace e1 := hE2.cell e1; replace e2 := hE2.cell e2; replace e3 := hE2.cell e3
            clear c0 c1 c2 c3
            have hcy' : ∀ W, (Instr.slice 70 (.slice (some ⟨b2, o2, none⟩) (qs.length + 1) d) (some (.int .i64 1)) none none).run Tryz.prog W = .ok (.slice AY qs.length (d - 1)) W := fun W => hcy W
            clear hcx hcy
            have HO2 := As.mk ((HO.out.ext hE2).ext (Ext.drew (Ext.refl w2)))
            have HB2 := As.mk (HB.out.trans (hE2.below.mono HB.out.size)).drew
            have hbz : w.heap.size ≤ w2.drew.heap.size := HB2.out.size
            have HLZ : As (zs.length < 4294967296) := ⟨by have := HL.out; simp at this; omega⟩
            go_region_law ((refine OwnL.append_step (W := w2.drew) w.heap.size rfl (.tmp 65) (.tmp 69) 70 72 _ 4 64 rfl Tryz.underlying70 info_item rfl (by decide) (by decide) u5 zs y [.string y.key, .string y.enc, .slice A2 y.row.length d2, .int .i64 y.size] rfl rfl (E := EIt w ok) HYE rfl (by simp [Value.oneCell']) HO2.out HB2.out hbz HLZ.out rfl ?_; intro v1 w3 hown hb' hg'))
            have HOUT := As.mk hown
            have HBUT := As.mk hb'
            clear hown hb' hg'
            go_wp2
            go_roundg (ps.length + 1 + qs.length)
            case measure => simp at hg; omega
            case rel => exact ⟨x :: ps, qs, zs ++ [y], by simp, HX, HRY, HOUT, HBUT, ⟨by rw [← HA.out, mergeL, if_neg (show ¬ x.cmp y < 0 from by unfold GI.cmp; rw [HQ.out]; omega), if_pos (show 0 < x.cmp y from by unfold GI.cmp; rw [HQ.out]; exact hgt)]; simp⟩, ⟨by have := HL.out; simp at this ⊢; omega⟩⟩
          · obtain rfl : q = 0 := by omega
            go_wp2
            (refine wp_region_quiet_grown (by assumption) (by kernel_rfl) ?_; (repeat (go_big_quiet_step ( (go_at_call 36; exact grown_ext (f1 _)) ))); refine wpQuiet_nil ?_; intro _ hw'; obtain ⟨⟨nq, osq⟩, hw''⟩ := hw'; subst hw'')
            clear g0 g1 g2 g3 k0 k1 k2 k3
            generalize hw2 : grow (wr.drewN nq) osq = w2 at *
            have hE2 : Ext wr w2 := hw2 ▸ ⟨nq, osq, rfl⟩
            clear hw2
            replace c0 := hE2.cell c0; replace c1 := hE2.cell c1; replace c2 := hE2.cell c2; replace c3 := hE2.cell c3
            replace e0 := hE2.cell e0; replace e1 := hE2.cell e1; replace e2 := hE2.cell e2; replace e3 := hE2.cell e3
            have hcx' : ∀ W, (Instr.slice 70 (.slice (some ⟨b, o, none⟩) (ps.length + 1) c) (some (.int .i64 1)) none none).run Tryz.prog W = .ok (.slice AX ps.length (c - 1)) W := fun W => hcx W
            have hcy' : ∀ W, (Instr.slice 70 (.slice (some ⟨b2, o2, none⟩) (qs.length + 1) d) (some (.int .i64 1)) none none).run Tryz.prog W = .ok (.slice AY qs.length (d - 1)) W := fun W => hcy W
            clear hcx hcy
            have hb3 : b2 < w2.heap.size := Nat.lt_of_lt_of_le hb2 (Nat.le_trans HB.out.size hE2.size)
            go_wp2
            obtain ⟨v0, hv0, hxs, hxk, hxe, hxr'⟩ := HXE
            have HXE2 : EIt w ok (x.add y) [.string x.key, .string x.enc, .slice A1 x.row.length d1, .int .i64 (wrap64 (x.size + y.size))] := ⟨_, rfl, by unfold GI.add i64; simp only; unfold wrap64; omega, hxk, hxe, hxr⟩
            have hmz : mergeL (x :: ps) (y :: qs) = if wrap64 (x.size + y.size) ≠ 0 then x.add y :: mergeL ps qs else mergeL ps qs := by
              have : x.cmp y = 0 := HQ.out
              rw [mergeL, if_neg (by omega), if_neg (by omega)]; rfl
            clear HYE hv0 hxs hxk hxe hxr' v0
            go_region
            generalize wrap64 (x.size + y.size) = sm at *
            have hcl : ∀ i, (w2.alloc (.cells #[.string x.key, .string x.enc, .slice A1 x.row.length d1, .int .i64 sm] 72)).drew.cell? ⟨w2.heap.size, i, none⟩ = (#[.string x.key, .string x.enc, .slice A1 x.row.length d1, .int .i64 sm] : Array Value)[i]? := fun i => by simp
            have hE3 : Ext w2 (w2.alloc (.cells #[.string x.key, .string x.enc, .slice A1 x.row.length d1, .int .i64 sm] 72)).drew := (by repeat (first | (with_reducible exact Ext.refl _) | (with_reducible assumption) | (with_reducible apply Ext.alloc) | (with_reducible apply Ext.drewN) | (with_reducible apply Ext.drew) | (with_reducible apply Ext.grow) | (with_reducible refine Ext.trans ?_ (by with_reducible assumption))))
            have hwn : w2.heap.size < (w2.alloc (.cells #[.string x.key, .string x.enc, .slice A1 x.row.length d1, .int .i64 sm] 72)).drew.heap.size := by simp
            generalize hw3 : (w2.alloc (.cells #[.string x.key, .string x.enc, .slice A1 x.row.length d1, .int .i64 sm] 72)).drew = w3 at *
            have hc0 : w3.cell? ⟨w2.heap.size, 0, none⟩ = some (.string x.key) := hcl 0
            have hc1 : w3.cell? ⟨w2.heap.size, 1, none⟩ = some (.string x.enc) := hcl 1
            have hc2 : w3.cell? ⟨w2.heap.size, 2, none⟩ = some (.slice A1 x.row.length d1) := hcl 2
            have hc3 : w3.cell? ⟨w2.heap.size, 3, none⟩ = some (.int .i64 sm) := hcl 3
            clear hcl hw3 c0 c1 c2 c3 e0 e1 e2 e3
            have HO3 := As.mk ((HO.out.ext hE2).ext hE3)
            have HB3 := As.mk ((HB.out.trans (hE2.below.mono HB.out.size)).trans (hE3.below.mono (Nat.le_trans HB.out.size hE2.size)))
            have hbz : w.heap.size ≤ w3.heap.size := HB3.out.size
            have HLZ : As (zs.length < 4294967296) := ⟨by have := HL.out; simp at this; omega⟩
            by_cases hs0 : sm = 0
            · have hsb : (sm != 0) = false := by simpa using hs0
              have HMZ : As (mergeL (x :: ps) (y :: qs) = mergeL ps qs) := ⟨by rw [hmz, if_neg (by simpa using hs0)]⟩
              clear hmz hs0
              go_wp2
              go_quiet (fail)
              go_wp2
              go_roundg (ps.length + qs.length)
              case measure => simp at hg; omega
              case rel => exact ⟨ps, qs, zs, by omega, HRX, HRY, ⟨HO3.out.ext (by repeat (first | (with_reducible exact Ext.refl _) | (with_reducible assumption) | (with_reducible apply Ext.alloc) | (with_reducible apply Ext.drewN) | (with_reducible apply Ext.drew) | (with_reducible apply Ext.grow) | (with_reducible refine Ext.trans ?_ (by with_reducible assumption))))⟩, ⟨HB3.out.trans ((Ext.below (by repeat (first | (with_reducible exact Ext.refl _) | (with_reducible assumption) | (with_reducible apply Ext.alloc) | (with_reducible apply Ext.drewN) | (with_reducible apply Ext.drew) | (with_reducible apply Ext.grow) | (with_reducible refine Ext.trans ?_ (by with_reducible assumption))))).mono hbz)⟩, ⟨by rw [← HA.out, HMZ.out]⟩, ⟨by have := HL.out; simp at this ⊢; omega⟩⟩
            · have hsb : (sm != 0) = true := by simpa using hs0
              have HMZ : As (mergeL (x :: ps) (y :: qs) = x.add y :: mergeL ps qs) := ⟨by rw [hmz, if_pos hs0]⟩
              clear hmz hs0
              go_wp2_with (at_builtin; go_loud (refine OwnL.append (W := w3) w.heap.size rfl (.tmp 43) (.tmp 45) 70 72 _ 4 64 rfl Tryz.underlying70 info_item rfl (by decide) (by decide) u5 zs (x.add y) [.string x.key, .string x.enc, .slice A1 x.row.length d1, .int .i64 sm] rfl rfl (E := EIt w ok) HXE2 rfl (by simp [Value.oneCell']) HO3.out HB3.out hbz HLZ.out rfl ?_); intro v1 w4 hown hb' hg' hat)
              have HOUT := As.mk hown
              have HBUT := As.mk hb'
              clear hown hb' hg' hat
              go_wp2
              go_quiet (fail)
              go_wp2
              go_roundg (ps.length + qs.length)
              case measure => simp at hg; omega
              case rel => exact ⟨ps, qs, zs ++ [x.add y], by omega, HRX, HRY, ⟨HOUT.out.ext (by repeat (first | (with_reducible exact Ext.refl _) | (with_reducible assumption) | (with_reducible apply Ext.alloc) | (with_reducible apply Ext.drewN) | (with_reducible apply Ext.drew) | (with_reducible apply Ext.grow) | (with_reducible refine Ext.trans ?_ (by with_reducible assumption))))⟩, ⟨HBUT.out.trans ((Ext.below (by repeat (first | (with_reducible exact Ext.refl _) | (with_reducible assumption) | (with_reducible apply Ext.alloc) | (with_reducible apply Ext.drewN) | (with_reducible apply Ext.drew) | (with_reducible apply Ext.grow) | (with_reducible refine Ext.trans ?_ (by with_reducible assumption))))).mono HBUT.out.size)⟩, ⟨by rw [← HA.out, HMZ.out]; simp⟩, ⟨by have := HL.out; simp at this ⊢; omega⟩⟩
end Go.Proofs.YtmpndmjfdijamaaGreatDoor
