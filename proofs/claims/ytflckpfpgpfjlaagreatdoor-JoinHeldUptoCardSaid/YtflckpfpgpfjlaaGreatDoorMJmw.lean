/- The walk of a side's met. -/
import Derived.Test.YtflckpfpgpfjlaaGreatDoorMJmet
set_option linter.unusedVariables false
set_option linter.unusedSimpArgs false
namespace Go.Proofs.YtflckpfpgpfjlaaGreatDoor
open Go.RowKit Go.Sort
theorem spanApart {α : Type} {E : α → List Value → Prop} {n base g : Nat} {t : TypeId} {w : World} {v : Value} {xs : List α} {cells : Array Value} {fr : Nat × Nat} (h : OwnL 3 E 83 w base v xs) (hn : n ≤ base) (hgb : v.ownBlock = some g) (hh : w.heap[g]? = some (.cells cells t fr)) (ho : Row0 n g t) : False := by
  obtain ⟨c, hc⟩ := h.typed g hgb
  have h1 := (h.lt g hgb).1
  rcases ho with ho | ho
  · omega
  · have := tag_eq hh hc
    subst ho
    revert this
    decide
theorem side_cells (w : World) (a b c : Value) (T : TypeId) : (w.alloc (.cells #[a, b, c] T)).cell? ⟨w.heap.size, 0, none⟩ = some a ∧ (w.alloc (.cells #[a, b, c] T)).cell? ⟨w.heap.size, 1, none⟩ = some b ∧ (w.alloc (.cells #[a, b, c] T)).cell? ⟨w.heap.size, 2, none⟩ = some c := by
  have h1 : (w.alloc (.cells #[a, b, c] T)).heap[w.heap.size]? = some (.cells #[a, b, c] T (0, 0)) := heap_alloc_new w _
  refine ⟨?_, ?_, ?_⟩ <;> rw [Lib.cell_of_heap h1] <;> rfl
theorem ent_cells (w1 : World) (a b : Value) (T : TypeId) : (w1.alloc (.cells #[a, b] T)).cell? ⟨w1.heap.size, 0, none⟩ = some a ∧ (w1.alloc (.cells #[a, b] T)).cell? ⟨w1.heap.size, 1, none⟩ = some b := by
  have h1 : (w1.alloc (.cells #[a, b] T)).heap[w1.heap.size]? = some (.cells #[a, b] T (0, 0)) := heap_alloc_new w1 _
  exact ⟨by rw [Lib.cell_of_heap h1]; rfl, by rw [Lib.cell_of_heap h1]; rfl⟩
set_option maxRecDepth 100000 in
set_option maxHeartbeats 4000000 in
theorem jMet_any (n0 : Nat) (lv v : Value) (wl : Int) (bs : Nat) (cols : List Int) (z d : List GE) (A0 : Option Addr) (d0 : Nat) (key : List GV) (w : World) (hc : RdI w AnyB lv cols) (hk : RdV w AnyB (.slice A0 key.length d0) key) (hn0 : n0 ≤ w.heap.size) (hd : RdZ w (Row0 n0) v d) (hl : z.length + d.length < 4294967296)
    (hget : ∀ W, Below w.heap.size w W → Calls Tryz.prog 34 #[.pointer (some ⟨bs, 0, none⟩), .slice A0 key.length d0] W (BagPost cols z key W))
    (hwt : ∀ W A c r, Below w.heap.size w W → RdV W AnyB (.slice A r.length c) r → Calls Tryz.prog 30 #[.pointer (some ⟨bs, 0, none⟩), .slice A r.length c] W fun e w' => e = .returned (.int .i64 (zw z r)) ∧ Below W.heap.size W w') (hds : zsound d = true) (hdr : ∀ r A c W, Below w.heap.size w W → RdV W AnyB (.slice A r.length c) r → Calls Tryz.prog 35 #[v, .slice A r.length c] W fun e w' => e = .returned (.int .i64 (zw d r)) ∧ Ext W w') :
    Calls Tryz.prog 31 #[.agg #[lv, .int .i64 wl, .pointer (some ⟨bs, 0, none⟩)], .slice A0 key.length d0, v] w (MetPost n0 cols z d key w) := by
  have mixed := mixed
  obtain ⟨B, cB, rfl, _⟩ := hc.shape
  obtain ⟨D, cD, rfl, _⟩ := hd.shape
  have HB0 : As (Below w.heap.size w (w.alloc (.cells #[.slice B cols.length cB, .int .i64 wl, .pointer (some ⟨bs, 0, none⟩)] 72))) := ⟨(Below.refl _ _).alloc (Nat.le_refl _) _⟩
  have HG := As.mk hget
  have HC := As.mk hc
  have HK := As.mk hk
  have HD := As.mk hd
  have HW := As.mk hwt
  have HZW := As.mk hdr
  clear hget hwt hdr hc hk hd
  go_enter Tryz.func31, Tryz.ntmps31
  go_wp2_with (go_at_call 34; refine (HG.out _ HB0.out).mono ?_; rintro e w1 ⟨A1, c1, rfl, hrd, hB1⟩; have HR1 := As.mk hrd; have HB1 := As.mk (HB0.out.trans (hB1.mono HB0.out.size)); have HSC : As (w1.cell? ⟨w.heap.size, 0, none⟩ = some (.slice B cols.length cB) ∧ w1.cell? ⟨w.heap.size, 1, none⟩ = some (.int .i64 wl) ∧ w1.cell? ⟨w.heap.size, 2, none⟩ = some (.pointer (some ⟨bs, 0, none⟩))) := ⟨let h := side_cells w (.slice B cols.length cB) (.int .i64 wl) (.pointer (some ⟨bs, 0, none⟩)) 72; ⟨bc hB1 h.1, bc hB1 h.2.1, bc hB1 h.2.2⟩⟩; clear hrd hB1)
  generalize hys : (z.filter fun x => keyIs cols key x.row) = ys at *
  have hlz : ys.length ≤ z.length := hys ▸ List.length_filter_le _ _
  have hb1 := HB1.out.size
  go_loopg [7, 9, 17] ys.length (fun g s7 _ s17 wr => ∃ k : Nat, k ≤ ys.length ∧ ys.length - k ≤ g ∧ s17 = .int .i64 k ∧ As (OwnL 3 (ESp wr (Row0 n0)) 83 wr w1.heap.size s7 (metA d (ys.take k))) ∧ As (Below w1.heap.size w1 wr))
  case atStart => exact ⟨0, Nat.zero_le _, by omega, rfl, ⟨OwnL.nil _ _ _ _ _⟩, ⟨Below.refl _ _⟩⟩
  case round =>
    obtain ⟨k, hk, hg, rfl, HO, HBW⟩ := hrel
    by_cases hlt : k < ys.length
    · have hltz : (k : Int) < (ys.length : Int) := by omega
      obtain ⟨x, hx⟩ : ∃ x, ys[k]? = some x := ⟨_, List.getElem?_eq_getElem hlt⟩
      have hRW := (HR1.out.ext HBW.out)
      obtain ⟨b2, o2, c2', A2, d2, hv, hb2, hxw, hrow, e0, e1⟩ := RdE.ent hRW hx
      injection hv with hA _ hcc
      subst hA hcc
      have hE0 : Ext wr (wr.alloc (.cells #[.slice A2 x.row.length d2, .int .i64 x.w] 66)) := Ext.alloc (Ext.refl _) _
      have hrow2 : RdV wr (Row0 n0) (.slice A2 x.row.length d2) x.row := hrow.mv (Stays.mono fun k t h => .inr (List.mem_singleton.1 h.2))
      have HROW := As.mk hrow2
      have HXI := As.mk hxw
      have HBY : As (Below w.heap.size w wr) := ⟨HB1.out.trans (HBW.out.mono hb1)⟩
      have HT : As (metA d (ys.take (k + 1)) = metA d (ys.take k) ++ [⟨x.row, x.w, wrap64 (x.w + zw d x.row)⟩]) := ⟨by rw [List.take_add_one, hx]; exact metA_snoc _ _ _⟩
      have hlk : (metA d (ys.take k)).length < 4294967296 := by
        unfold metA
        rw [List.length_map]
        have := List.length_take_le k ys
        omega
      have HLK := As.mk hlk
      have hdw : IntKind.i64.wrap (x.w + zw d x.row) = wrap64 (x.w + zw d x.row) := by (rw [IntKind.wrap_i64]; unfold wrap64; omega)
      have hnw := As.mk (wrap64_i64 (x.w + zw d x.row))
      have HC0 : As ((wr.alloc (.cells #[.slice A2 x.row.length d2, .int .i64 x.w] 66)).heap[wr.heap.size]? = some (.cells #[.slice A2 x.row.length d2, .int .i64 x.w] 66 (0, 0))) := ⟨heap_alloc_new _ _⟩
      have HZ1 := As.mk (fun W (hE : Ext (wr.alloc (.cells #[.slice A2 x.row.length d2, .int .i64 x.w] 66)) W) => HZW.out x.row A2 d2 W (HBY.out.trans ((hE0.trans hE).below.mono HBY.out.size)) (((HROW.out.mv (Stays.any _ _))).ext (hE0.trans hE).below))
      have HOW := As.mk (fun W (hE : Ext (wr.alloc (.cells #[.slice A2 x.row.length d2, .int .i64 x.w] 66)) W) => ((HO.out.ext (hE0.trans hE)).imp fun _ _ h => ESp.mv h (Stays.below (hE0.trans hE).below _)))
      have HRO2 := As.mk (fun W (hE : Ext (wr.alloc (.cells #[.slice A2 x.row.length d2, .int .i64 x.w] 66)) W) => HROW.out.ext (hE0.trans hE).below)
      have HBB := As.mk (fun W (hE : Ext (wr.alloc (.cells #[.slice A2 x.row.length d2, .int .i64 x.w] 66)) W) => HBW.out.trans ((hE0.trans hE).below.mono HBW.out.size))
      generalize metA d (ys.take k) = xs at *
      generalize wrap64 (x.w + zw d x.row) = nw at *
      obtain ⟨xr, xw⟩ := x
      simp only at *
      generalize zw d xr = dz at *
      go_wp2_with fail
      clear e0 e1 hrow hrow2 hxw
      generalize hcb : wr.heap.size = cb at *
      generalize hW0 : wr.alloc (Obj.cells #[Value.slice A2 xr.length d2, Value.int IntKind.i64 xw] 66) = W0 at *
      obtain ⟨f0, f1, _⟩ := cells2 HC0.out
      clear hcb hW0 hE0
      go_region_law (first | ((refine OwnL.append_step (W := w2) w1.heap.size rfl (.tmp 21) (.tmp 34) 79 83 _ 3 40 rfl Tryz.underlying79 info_span rfl (by decide) (by decide) u7 xs ⟨xr, xw, nw⟩ [.slice A2 xr.length d2, .int .i64 xw, .int .i64 nw] rfl rfl (E := ESp w2 (Row0 n0)) ⟨_, rfl, HXI.out, hnw.out, HR2.out⟩ rfl (by simp [Value.oneCell']) HO2.out HB2.out HB2.out.size HLK.out rfl ?_; intro v1 w3 hown hb' hg'; have HO3 := As.mk (hown.imp fun _ _ h => ESp.mv h (Stays.grown hg' (Row0 n0) fun g t cells fr hgb hh ho => spanApart HO2.out (Nat.le_trans hn0 HB1.out.size) hgb hh ho)); have HB3 := As.mk hb'; clear hown hb' hg')) | (go_simp; go_at_call 35; refine (HZ1.out _ (Ext.drew (Ext.refl _))).mono ?_; rintro e w2 ⟨rfl, hE2⟩; have hE2 := (Ext.drew (Ext.refl W0)).trans hE2; have HO2 := As.mk (HOW.out _ hE2); have HR2 := As.mk (HRO2.out _ hE2); have HB2 := As.mk (HBB.out _ hE2); have g0 := hE2.cell f0; have g1 := hE2.cell f1; clear hE2))
      all_goals (go_wp2; go_roundg (ys.length - (k + 1)); (case measure => omega); (case rel => exact ⟨k + 1, by omega, by omega, by go_num, ⟨by rw [HT.out]; exact HO3.out⟩, HB3⟩))
    · obtain rfl : k = ys.length := by omega
      rw [List.take_length] at HO
      clear hlt hg hk
      obtain ⟨xs0, hxs0⟩ : ∃ xs0, xs0 = metA d ys := ⟨_, rfl⟩
      rw [← hxs0] at HO
      have HXS := As.mk hxs0
      have hxl : xs0.length ≤ z.length := by rw [hxs0]; unfold metA; rw [List.length_map]; exact hlz
      clear hxs0
      go_wp2_with fail
      generalize wr = wo at *
      go_loopg [7, 11, 39] d.length (fun g s7 _ s39 wr => ∃ k : Nat, k ≤ d.length ∧ d.length - k ≤ g ∧ s39 = .int .i64 k ∧ As (OwnL 3 (ESp wr (Row0 n0)) 83 wr w1.heap.size s7 (xs0 ++ metB cols z key (d.take k))) ∧ As (Below w1.heap.size w1 wr))
      case atStart => exact ⟨0, Nat.zero_le _, by omega, rfl, ⟨by rw [show metB cols z key (d.take 0) = [] from rfl, List.append_nil]; exact HO.out⟩, HBW⟩
      case round =>
        obtain ⟨k, hk, hg, rfl, HO2, HBQ⟩ := hrel
        clear HO HBW
        by_cases hlt : k < d.length
        · have hltz : (k : Int) < (d.length : Int) := by omega
          obtain ⟨x, hx⟩ : ∃ x, d[k]? = some x := ⟨_, List.getElem?_eq_getElem hlt⟩
          have HBY : As (Below w.heap.size w wr) := ⟨HB1.out.trans (HBQ.out.mono hb1)⟩
          have hdq := HD.out.ext HBY.out
          obtain ⟨b2, o2, c2', A2, d2, hv, hb2, hxw, hrow, e0, e1⟩ := RdZ.ent hdq hx
          injection hv with hA _ hcc
          subst hA hcc
          obtain ⟨s0, s1, s2⟩ := HSC.out
          have s0 := bc HBQ.out s0
          have s1 := bc HBQ.out s1
          have s2 := bc HBQ.out s2
          have HT : As (xs0 ++ metB cols z key (d.take (k + 1)) = (xs0 ++ metB cols z key (d.take k)) ++ (if (sameR (keyOf cols x.row) key && decide (zw z x.row = 0)) = true then [⟨x.row, 0, x.w⟩] else [])) := ⟨by rw [List.take_add_one, hx, List.append_assoc]; congr 1; exact metB_snoc cols z key (d.take k) x⟩
          have hlk : (xs0 ++ metB cols z key (d.take k)).length < 4294967296 := by
            have h1 : (metB cols z key (d.take k)).length ≤ (d.take k).length := by unfold metB; rw [List.length_map]; exact List.length_filter_le _ _
            have h2 := List.length_take_le k d
            rw [List.length_append]
            omega
          have HLK := As.mk hlk
          have HXI := As.mk hxw
          have HE0 : As (Ext wr (wr.alloc (.cells #[.slice A2 x.row.length d2, .int .i64 x.w] 66))) := ⟨Ext.alloc (Ext.refl _) _⟩
          obtain ⟨f0, f1⟩ := ent_cells wr (.slice A2 x.row.length d2) (.int .i64 x.w) 66
          have s0 := HE0.out.cell s0
          have s1 := HE0.out.cell s1
          have s2 := HE0.out.cell s2
          have HOW := As.mk ((HO2.out.ext HE0.out).imp fun _ _ h => ESp.mv h (Stays.below HE0.out.below _))
          have HRW := As.mk (hrow.ext HE0.out.below)
          have HBW := As.mk (HBQ.out.trans (HE0.out.below.mono HBQ.out.size))
          have HBZ := As.mk (HBY.out.trans (HE0.out.below.mono HBY.out.size))
          have HKW := As.mk (HK.out.ext HBZ.out)
          have HKY := As.mk (jKey_any (.slice B cols.length cB) (.slice A2 x.row.length d2) wl (some ⟨bs, 0, none⟩) cols x.row (wr.alloc (.cells #[.slice A2 x.row.length d2, .int .i64 x.w] 66)) (HC.out.ext HBZ.out) (HRW.out.mv (Stays.any _ _)))
          generalize hks : keyOf cols x.row = ks at *
          generalize metB cols z key (d.take k) = ms at *
          obtain ⟨xr, xw⟩ := x
          simp only at *
          have HEQ := As.mk (fun W v u h1 h2 => equalR_any v u ks key W h1 h2)
          have HWX := As.mk (fun W hb hr => HW.out W A2 d2 xr hb hr)
          generalize zw z xr = zx at *
          generalize sameR ks key = sm at *
          clear hrow hxw hlk hdq
          have hib : i64 0 := ⟨by decide, by decide⟩
          cases sm with
          | false =>
            have HT2 : As (xs0 ++ metB cols z key (d.take (k + 1)) = xs0 ++ ms) := ⟨by rw [HT.out]; simp⟩
            go_wp2_with (first | (go_at_call 32; refine HKY.out.mono ?_; rintro e w3 ⟨A3, d3, rfl, hk3, hB3⟩; have t0 := bc hB3 s0; have t1 := bc hB3 s1; have t2 := bc hB3 s2; have HK3 := As.mk hk3; have HB3 := As.mk hB3; clear hk3 hB3) | (go_at_call 65; refine (HEQ.out _ _ _ HK3.out (HKW.out.ext HB3.out)).mono ?_; rintro e w4 ⟨rfl, m4, rfl⟩))
            have hE4 : Ext w3 (w3.drewN m4) := Ext.drewN (Ext.refl _) m4
            have HB4 := As.mk (HB3.out.trans (hE4.below.mono HB3.out.size))
            go_roundg (d.length - (k + 1))
            case measure => omega
            case rel => exact ⟨k + 1, by omega, by omega, by go_num, ⟨by rw [HT2.out]; exact (HOW.out.below HB4.out).imp fun _ _ h => ESp.mv h (Stays.below HB4.out _)⟩, ⟨HBW.out.trans (HB4.out.mono HBW.out.size)⟩⟩
          | true =>
            by_cases hz0 : zx = 0
            · subst hz0
              have HT2 : As (xs0 ++ metB cols z key (d.take (k + 1)) = (xs0 ++ ms) ++ [⟨xr, 0, xw⟩]) := ⟨by rw [HT.out]; simp⟩
              go_wp2_with (first | (go_at_call 32; refine HKY.out.mono ?_; rintro e w3 ⟨A3, d3, rfl, hk3, hB3⟩; have t0 := bc hB3 s0; have t1 := bc hB3 s1; have t2 := bc hB3 s2; have g0 := bc hB3 f0; have g1 := bc hB3 f1; have HK3 := As.mk hk3; have HB3 := As.mk hB3; clear hk3 hB3) | (go_at_call 65; refine (HEQ.out _ _ _ HK3.out (HKW.out.ext HB3.out)).mono ?_; rintro e w4 ⟨rfl, m4, rfl⟩; have hE4 : Ext w3 (w3.drewN m4) := Ext.drewN (Ext.refl _) m4; have HB4 := As.mk (HB3.out.trans (hE4.below.mono HB3.out.size)); have u0 := hE4.cell t0; have u1 := hE4.cell t1; have u2 := hE4.cell t2; have g0 := hE4.cell g0; have g1 := hE4.cell g1; generalize w3.drewN m4 = w4 at *; clear hE4) | (go_at_call 30; refine (HWX.out w4 (HBZ.out.trans (HB4.out.mono HBZ.out.size)) ((HRW.out.mv (Stays.any _ _)).ext HB4.out)).mono ?_; rintro e w5 ⟨rfl, hB5⟩; have h0 := bc hB5 g0; have h1 := bc hB5 g1; have HB5 := As.mk (HB4.out.trans (hB5.mono HB4.out.size)); clear hB5) | (at_builtin; go_loud (refine OwnL.append (E := ESp w5 (Row0 n0)) (W := w5) (w0 := w1) w1.heap.size rfl (.tmp 57) (.tmp 63) 79 83 _ 3 40 rfl Tryz.underlying79 info_span rfl (by decide) (by decide) _ (xs0 ++ ms) ⟨xr, 0, xw⟩ [.slice A2 xr.length d2, .int .i64 0, .int .i64 xw] rfl rfl ⟨_, rfl, hib, HXI.out, HRW.out.ext HB5.out⟩ rfl (by simp [Value.oneCell']) ((HOW.out.below HB5.out).imp fun _ _ h => ESp.mv h (Stays.below HB5.out _)) (HBW.out.trans (HB5.out.mono HBW.out.size)) (Nat.le_trans (HBW.out.size) HB5.out.size) HLK.out rfl ?_; intro v6 w6 hown hb' hg' hat'; have HO6 := As.mk (hown.imp fun _ _ h => ESp.mv h (Stays.grown hg' (Row0 n0) fun g t cells fr hgb hh ho => spanApart ((HOW.out.below HB5.out)) (Nat.le_trans hn0 hb1) hgb hh ho)); have HB6 := As.mk hb'; clear hown hb' hg' hat')))
              go_roundg (d.length - (k + 1))
              case measure => omega
              case rel => exact ⟨k + 1, by omega, by omega, by go_num, ⟨by rw [HT2.out]; exact HO6.out⟩, HB6⟩
            · have hz1 : (zx == 0) = false := by simpa using hz0
              have HT2 : As (xs0 ++ metB cols z key (d.take (k + 1)) = xs0 ++ ms) := ⟨by rw [HT.out]; simp [hz0]⟩
              go_wp2_with (first | (go_at_call 32; refine HKY.out.mono ?_; rintro e w3 ⟨A3, d3, rfl, hk3, hB3⟩; have t0 := bc hB3 s0; have t1 := bc hB3 s1; have t2 := bc hB3 s2; have g0 := bc hB3 f0; have g1 := bc hB3 f1; have HK3 := As.mk hk3; have HB3 := As.mk hB3; clear hk3 hB3) | (go_at_call 65; refine (HEQ.out _ _ _ HK3.out (HKW.out.ext HB3.out)).mono ?_; rintro e w4 ⟨rfl, m4, rfl⟩; have hE4 : Ext w3 (w3.drewN m4) := Ext.drewN (Ext.refl _) m4; have HB4 := As.mk (HB3.out.trans (hE4.below.mono HB3.out.size)); have u0 := hE4.cell t0; have u1 := hE4.cell t1; have u2 := hE4.cell t2; have g0 := hE4.cell g0; have g1 := hE4.cell g1; generalize w3.drewN m4 = w4 at *; clear hE4) | (go_at_call 30; refine (HWX.out w4 (HBZ.out.trans (HB4.out.mono HBZ.out.size)) ((HRW.out.mv (Stays.any _ _)).ext HB4.out)).mono ?_; rintro e w5 ⟨rfl, hB5⟩; have HB5 := As.mk (HB4.out.trans (hB5.mono HB4.out.size)); clear hB5))
              go_roundg (d.length - (k + 1))
              case measure => omega
              case rel => exact ⟨k + 1, by omega, by omega, by go_num, ⟨by rw [HT2.out]; exact (HOW.out.below HB5.out).imp fun _ _ h => ESp.mv h (Stays.below HB5.out _)⟩, ⟨HBW.out.trans (HB5.out.mono HBW.out.size)⟩⟩
        · go_wp2
          go_ret
          obtain rfl : k = d.length := by omega
          have h1 := HO2.out
          rw [List.take_length, HXS.out, ← hys, ← metL_eq] at h1
          obtain ⟨A9, c9, rfl, _⟩ := h1.shape
          exact ⟨A9, c9, rfl, RdL.move (h1.rd (ok := Fresh w.heap.size [83]) fun k hk => ⟨Nat.le_trans hb1 hk, by simp⟩) (fun _ _ e => e) (Stays.mono fun _ _ h => h), HB1.out.trans (HBQ.out.mono hb1)⟩
end Go.Proofs.YtflckpfpgpfjlaaGreatDoor
