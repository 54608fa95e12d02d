/- The walks of the reference's rows: Sound, Compare, Pick. -/
import Derived.Test.YtmpndmjfdijamaaGreatDoorRef1
import Derived.Test.YtmpndmjfdijamaaGreatDoorTold
set_option linter.unusedVariables false
set_option linter.unusedSimpArgs false
namespace Go.Proofs.YtmpndmjfdijamaaGreatDoor
open Go.RowKit Go.Sort
theorem rsound_no {r : List GV} {k : Nat} {x : GV} (hx : r[k]? = some x) (h : vsound x = false) : rsound r = false := by
  unfold rsound
  have : (r.any fun x => !vsound x) = true := List.any_eq_true.2 ⟨x, List.mem_of_getElem? hx, by rw [h]; rfl⟩
  rw [this]; simp
theorem rsound_yes {r : List GV} (hl : r.length ≤ 1024) (h : ∀ (i : Nat) (x : GV), r[i]? = some x → vsound x = true) : rsound r = true := by
  unfold rsound
  rw [decide_eq_true hl, Bool.true_and, Bool.not_eq_true', List.any_eq_false]
  intro x hx
  obtain ⟨i, hi⟩ := List.mem_iff_getElem?.1 hx
  rw [h i x hi]; simp
set_option maxRecDepth 100000 in
set_option maxHeartbeats 2000000 in
theorem r2Sound_any (v : Value) (r : List GV) (w : World) (hr : RdV w AnyB v r) :
    Calls Tryz.prog 50 #[v] w fun e w' => e = .returned (.bool (rsound r)) ∧ Ext w w' := by
  have mixed := mixed
  obtain ⟨A, c, rfl, hc⟩ := hr.shape
  have hl := hr.len
  have HR := As.mk hr
  clear hr
  go_enter Tryz.func50, Tryz.ntmps50
  go_wp2
  go_loopg [3] r.length (fun g s3 wr => ∃ k : Nat, k ≤ r.length ∧ k ≤ 1024 ∧ r.length - k ≤ g ∧ s3 = .int .i64 k ∧ As (Ext w wr) ∧ As (∀ i y, i < k → r[i]? = some y → vsound y = true))
  case atStart => exact ⟨0, Nat.zero_le _, by omega, by omega, by go_num, ⟨Ext.refl _⟩, ⟨fun i y hi => absurd hi (Nat.not_lt_zero _)⟩⟩
  case round =>
    obtain ⟨k, hk, hk2, hg, rfl, HE, HA⟩ := hrel
    by_cases hlt : k < r.length
    · have hltz : (k : Int) < (r.length : Int) := by omega
      obtain ⟨x, hx⟩ : ∃ x, r[k]? = some x := ⟨_, List.getElem?_eq_getElem hlt⟩
      obtain ⟨b, o, c', hv, hb, hok, c0, c1, c2, c3⟩ := RdV.val HR.out hx
      injection hv with hA _ hcc
      subst hA
      replace c0 := HE.out.cell c0; replace c1 := HE.out.cell c1; replace c2 := HE.out.cell c2; replace c3 := HE.out.cell c3
      have s1 := fun W => r1Sound_any x W hok
      have HX := As.mk hx
      have hE0 := HE.out
      clear hx hcc hok
      by_cases h1k : 1024 ≤ k
      · have hz : decide ((1024 : Int) ≤ (k : Int)) = true := decide_eq_true (by omega)
        have HF : As (rsound r = false) := ⟨by unfold rsound; rw [decide_eq_false (by omega)]; rfl⟩
        go_wp2
        go_ret
        exact ⟨ret_bool HF.out.symm, (by repeat (first | (with_reducible exact Ext.refl _) | (with_reducible assumption) | (with_reducible apply Ext.alloc) | (with_reducible apply Ext.drewN) | (with_reducible apply Ext.drew) | (with_reducible apply Ext.grow) | (with_reducible refine Ext.trans ?_ (by with_reducible assumption))))⟩
      · have hz : decide ((1024 : Int) ≤ (k : Int)) = false := decide_eq_false (by omega)
        cases hs : vsound x
        · rw [hs] at s1
          have HF : As (rsound r = false) := ⟨rsound_no HX.out hs⟩
          clear hs
          go_wp2_with (go_at_call 79; refine (s1 _).mono ?_; rintro e w1 ⟨rfl, hE⟩)
          go_ret
          exact ⟨ret_bool HF.out.symm, (by repeat (first | (with_reducible exact Ext.refl _) | (with_reducible assumption) | (with_reducible apply Ext.alloc) | (with_reducible apply Ext.drewN) | (with_reducible apply Ext.drew) | (with_reducible apply Ext.grow) | (with_reducible refine Ext.trans ?_ (by with_reducible assumption))))⟩
        · rw [hs] at s1
          have HS := As.mk hs
          clear hs
          go_wp2_with (go_at_call 79; refine (s1 _).mono ?_; rintro e w1 ⟨rfl, hE⟩)
          go_roundg (r.length - (k + 1))
          case measure => omega
          case rel =>
            refine ⟨k + 1, by omega, by omega, by omega, by go_num, ⟨(by repeat (first | (with_reducible exact Ext.refl _) | (with_reducible assumption) | (with_reducible apply Ext.alloc) | (with_reducible apply Ext.drewN) | (with_reducible apply Ext.drew) | (with_reducible apply Ext.grow) | (with_reducible refine Ext.trans ?_ (by with_reducible assumption))))⟩, ⟨fun i y hi hy => ?_⟩⟩
            by_cases e : i = k
            · subst e; rw [HX.out] at hy; injection hy with hy; subst hy; exact HS.out
            · exact HA.out i y (by omega) hy
    · have hltz : ¬ (k : Int) < (r.length : Int) := by omega
      go_wp2
      go_ret
      exact ⟨ret_bool (rsound_yes (by omega) fun i y hy => HA.out i y (by have := (List.getElem?_eq_some_iff.1 hy).1; omega) hy).symm, HE.out⟩
/-- An arm that tells a call of the reference's Sound of rows. -/
theorem rcmp_at {r s : List GV} (h1 : rsound r = true) (h2 : rsound s = true) : rcmp r s = rcmp0 r s := by unfold rcmp; rw [if_neg (by rw [h1, h2]; simp)]
set_option maxRecDepth 100000 in
set_option maxHeartbeats 2000000 in
theorem r2Compare_any (v u : Value) (r s : List GV) (w : World) (hr : RdV w AnyB v r) (hs : RdV w AnyB u s) :
    Calls Tryz.prog 63 #[v, u] w fun e w' => e = .returned (.int .i64 (rcmp r s)) ∧ Ext w w' := by
  have mixed := mixed
  obtain ⟨A, c, rfl, hc⟩ := hr.shape
  obtain ⟨B, d, rfl, hd⟩ := hs.shape
  have hl := hr.len
  have hm := hs.len
  have HR := As.mk hr
  have HS := As.mk hs
  have s1 := fun W (hE : Ext w W) => r2Sound_any _ r W (HR.out.ext hE.below)
  have s2 := fun W (hE : Ext w W) => r2Sound_any _ s W (HS.out.ext hE.below)
  clear hr hs
  cases h1 : rsound r
  · rw [h1] at s1
    have hv : rcmp r s = 0 := by unfold rcmp; rw [if_pos (.inl h1)]
    rw [hv]
    clear hv h1 s2
    go_enter Tryz.func63, Tryz.ntmps63
    go_wp2_with (go_at_call 50; refine (s1 _ (by repeat (first | (with_reducible exact Ext.refl _) | (with_reducible assumption) | (with_reducible apply Ext.alloc) | (with_reducible apply Ext.drewN) | (with_reducible apply Ext.drew) | (with_reducible apply Ext.grow) | (with_reducible refine Ext.trans ?_ (by with_reducible assumption))))).mono ?_; rintro e w1 ⟨rfl, hE⟩)
    go_ret
    exact ⟨rfl, (by repeat (first | (with_reducible exact Ext.refl _) | (with_reducible assumption) | (with_reducible apply Ext.alloc) | (with_reducible apply Ext.drewN) | (with_reducible apply Ext.drew) | (with_reducible apply Ext.grow) | (with_reducible refine Ext.trans ?_ (by with_reducible assumption))))⟩
  cases h2 : rsound s
  · rw [h1] at s1; rw [h2] at s2
    have hv : rcmp r s = 0 := by unfold rcmp; rw [if_pos (.inr h2)]
    rw [hv]
    clear hv h1 h2
    go_enter Tryz.func63, Tryz.ntmps63
    go_wp2_with fail
    refine (s1 _ (by repeat (first | (with_reducible exact Ext.refl _) | (with_reducible assumption) | (with_reducible apply Ext.alloc) | (with_reducible apply Ext.drewN) | (with_reducible apply Ext.drew) | (with_reducible apply Ext.grow) | (with_reducible refine Ext.trans ?_ (by with_reducible assumption))))).mono ?_
    rintro e w1 ⟨rfl, hE⟩
    go_wp2_with fail
    refine (s2 _ (by repeat (first | (with_reducible exact Ext.refl _) | (with_reducible assumption) | (with_reducible apply Ext.alloc) | (with_reducible apply Ext.drewN) | (with_reducible apply Ext.drew) | (with_reducible apply Ext.grow) | (with_reducible refine Ext.trans ?_ (by with_reducible assumption))))).mono ?_
    rintro e w2 ⟨rfl, hE2⟩
    go_wp2_with fail
    go_ret
    exact ⟨rfl, (by repeat (first | (with_reducible exact Ext.refl _) | (with_reducible assumption) | (with_reducible apply Ext.alloc) | (with_reducible apply Ext.drewN) | (with_reducible apply Ext.drew) | (with_reducible apply Ext.grow) | (with_reducible refine Ext.trans ?_ (by with_reducible assumption))))⟩
  rw [h1] at s1; rw [h2] at s2
  rw [rcmp_at h1 h2]
  clear h1 h2
  go_enter Tryz.func63, Tryz.ntmps63
  go_wp2_with fail
  refine (s1 _ (by repeat (first | (with_reducible exact Ext.refl _) | (with_reducible assumption) | (with_reducible apply Ext.alloc) | (with_reducible apply Ext.drewN) | (with_reducible apply Ext.drew) | (with_reducible apply Ext.grow) | (with_reducible refine Ext.trans ?_ (by with_reducible assumption))))).mono ?_
  rintro e w1 ⟨rfl, hE⟩
  go_wp2_with fail
  refine (s2 _ (by repeat (first | (with_reducible exact Ext.refl _) | (with_reducible assumption) | (with_reducible apply Ext.alloc) | (with_reducible apply Ext.drewN) | (with_reducible apply Ext.drew) | (with_reducible apply Ext.grow) | (with_reducible refine Ext.trans ?_ (by with_reducible assumption))))).mono ?_
  rintro e w2 ⟨rfl, hE2⟩
  have HE2 := As.mk (Ext.trans hE hE2)
  clear hE hE2 s1 s2
  go_wp2_with fail
  go_loopg [5, 6] r.length (fun g s5 _ wr => ∃ k : Nat, k ≤ r.length ∧ k ≤ s.length ∧ r.length - k ≤ g ∧ s5 = .int .i64 k ∧ As (Ext w wr) ∧ As (rcmp0 (r.drop k) (s.drop k) = rcmp0 r s))
  case atStart => exact ⟨0, Nat.zero_le _, Nat.zero_le _, by omega, by go_num, HE2, ⟨rfl⟩⟩
  case round =>
    obtain ⟨k, hk, hks, hg, rfl, HE, HA⟩ := hrel
    by_cases hlt : k < r.length
    · have hltz : (k : Int) < (r.length : Int) := by omega
      by_cases hlt2 : k < s.length
      · have hltz3 : (k : Int) < (s.length : Int) := by omega
        obtain ⟨x, hx⟩ : ∃ x, r[k]? = some x := ⟨_, List.getElem?_eq_getElem hlt⟩
        obtain ⟨b, o, c', hv, hb, hok, c0, c1, c2, c3⟩ := RdV.val HR.out hx
        injection hv with hA _ hcc
        subst hA
        replace c0 := HE.out.cell c0; replace c1 := HE.out.cell c1; replace c2 := HE.out.cell c2; replace c3 := HE.out.cell c3
        obtain ⟨y, hy⟩ : ∃ y, s[k]? = some y := ⟨_, List.getElem?_eq_getElem hlt2⟩
        obtain ⟨b2, o2, c2', hv2, hb2, hok2, d0, d1, d2, d3⟩ := RdV.val HS.out hy
        injection hv2 with hA2 _ hcc2
        subst hA2
        replace d0 := HE.out.cell d0; replace d1 := HE.out.cell d1; replace d2 := HE.out.cell d2; replace d3 := HE.out.cell d3
        have gc0 := gc c0; have gc1 := gc c1; have gc2 := gc c2; have gc3 := gc c3
        have gd0 := gc d0; have gd1 := gc d1; have gd2 := gc d2; have gd3 := gc d3
        have q1 := fun W => r1Compare_any x y W hok hok2
        have HD := As.mk (rcmp0_drop r s k x y hx hy)
        clear hx hy hcc hcc2 hok hok2 hb hb2
        generalize vcmp x y = q at *
        have hE0 := HE.out
        by_cases hq : q = 0
        · subst hq
          go_wp2
          (refine wp_region_quiet_grown (by assumption) (by kernel_rfl) ?_; (repeat (go_big_quiet_step ( (go_at_call 97; exact grown_ext (q1 _)) ))); refine wpQuiet_nil ?_; intro _ hw'; obtain ⟨⟨nq, osq⟩, hw''⟩ := hw'; subst hw'')
          go_wp2
          go_roundg (r.length - (k + 1))
          case measure => omega
          case rel =>
            have HF : As (rcmp0 (r.drop (k + 1)) (s.drop (k + 1)) = rcmp0 r s) := ⟨by rw [← HA.out, HD.out]; simp⟩
            exact ⟨k + 1, by omega, by omega, by omega, by go_num, ⟨(by repeat (first | (with_reducible exact Ext.refl _) | (with_reducible assumption) | (with_reducible apply Ext.alloc) | (with_reducible apply Ext.drewN) | (with_reducible apply Ext.drew) | (with_reducible apply Ext.grow) | (with_reducible refine Ext.trans ?_ (by with_reducible assumption))))⟩, HF⟩
        · have hqb : (q != 0) = true := by simpa using hq
          go_wp2
          (refine wp_region_quiet_grown (by assumption) (by kernel_rfl) ?_; (repeat (go_big_quiet_step ( (go_at_call 97; exact grown_ext (q1 _)) ))); refine wpQuiet_nil ?_; intro _ hw'; obtain ⟨⟨nq, osq⟩, hw''⟩ := hw'; subst hw'')
          go_wp2
          go_ret
          exact ⟨ret_int (by rw [← HA.out, HD.out, if_pos hq]), (by repeat (first | (with_reducible exact Ext.refl _) | (with_reducible assumption) | (with_reducible apply Ext.alloc) | (with_reducible apply Ext.drewN) | (with_reducible apply Ext.drew) | (with_reducible apply Ext.grow) | (with_reducible refine Ext.trans ?_ (by with_reducible assumption))))⟩
      · have hltz2 : ¬ (k : Int) < (s.length : Int) := by omega
        have h3z : ¬ (r.length : Int) < (s.length : Int) := by omega
        have h4z : (s.length : Int) < (r.length : Int) := by omega
        have HD := As.mk (rcmp0_short r s k hlt (by omega))
        go_wp2
        go_ret
        exact ⟨ret_int (by rw [← HA.out, HD.out]), HE.out⟩
    · have hltz : ¬ (k : Int) < (r.length : Int) := by omega
      obtain rfl : k = r.length := by omega
      have HD := As.mk (rcmp0_end r s hks)
      by_cases h3 : r.length < s.length
      · have h3z : (r.length : Int) < (s.length : Int) := by omega
        go_wp2
        go_ret
        exact ⟨ret_int (by rw [← HA.out, HD.out, if_pos h3]), HE.out⟩
      · have h3z : ¬ (r.length : Int) < (s.length : Int) := by omega
        have h4z : ¬ (s.length : Int) < (r.length : Int) := by omega
        go_wp2
        go_ret
        exact ⟨ret_int (by rw [← HA.out, HD.out, if_neg h3]), HE.out⟩
theorem r2Pick_bad (v u : Value) (r : List GV) (cols : List Int) (w : World) (hr : RdV w AnyB v r) (hc : RdI w AnyB u cols) (h : ¬ (rsound r = true ∧ cols.length ≤ 1024)) :
    Calls Tryz.prog 22 #[v, u] w fun e w' => e = .returned (.tuple #[.slice none 0 0, .int .i64 1]) ∧ Below w.heap.size w w' := by
  have h1 := r2Sound_any v r w hr
  obtain ⟨A, c, rfl, _⟩ := hr.shape
  obtain ⟨B, d, rfl, _⟩ := hc.shape
  clear hr hc
  cases hs : rsound r
  · rw [hs] at h1
    clear h hs
    go_enter Tryz.func22, Tryz.ntmps22
    go_wp2_with (go_at_call 50; refine h1.mono ?_; rintro e w1 ⟨rfl, hE⟩)
    go_ret2
    exact ⟨rfl, hE.below⟩
  · have hz : 1024 < (cols.length : Int) := by
      have : ¬ cols.length ≤ 1024 := fun h2 => h ⟨hs, h2⟩
      omega
    rw [hs] at h1
    clear h hs
    go_enter Tryz.func22, Tryz.ntmps22
    go_wp2_with (go_at_call 50; refine h1.mono ?_; rintro e w1 ⟨rfl, hE⟩)
    go_ret2
    exact ⟨rfl, hE.below⟩
set_option maxHeartbeats 2000000 in
theorem r2Pick_good (v u : Value) (r : List GV) (cols : List Int) (w : World) (hr : RdV w AnyB v r) (hc : RdI w AnyB u cols) (h : rsound r = true) (h2 : cols.length ≤ 1024) :
    Calls Tryz.prog 22 #[v, u] w (PickPost w (pickL r cols)) := by
  have h1 := r2Sound_any v r w hr
  rw [h] at h1
  obtain ⟨A, c, rfl, _⟩ := hr.shape
  obtain ⟨B, d, rfl, _⟩ := hc.shape
  have hrl := hr.len
  have hz : ¬ 1024 < (cols.length : Int) := by omega
  have HR := As.mk hr
  have HC := As.mk hc
  clear hr hc h
  go_enter Tryz.func22, Tryz.ntmps22
  go_wp2_with fail
  refine h1.mono ?_
  rintro e w1 ⟨rfl, hE⟩
  have HB1 := As.mk hE.below
  clear hE h1
  go_wp2
  go_loopg [6, 7] cols.length (fun g s6 s19 wr => ∃ (k : Nat) (xs : List GV), k ≤ cols.length ∧ cols.length - k ≤ g ∧ s19 = .int .i64 k ∧ xs.length = k ∧ As (OwnL 4 EV 55 wr w.heap.size s6 xs) ∧ As (Below w.heap.size w wr) ∧ As ((pickL r (cols.drop k)).map (xs ++ ·) = pickL r cols))
  case atStart => exact ⟨0, [], Nat.zero_le _, by omega, by go_num, rfl, ⟨OwnL.made 4 EV 55 w1 w.heap.size #[] 0 HB1.out.size (by decide) rfl⟩, ⟨HB1.out.alloc HB1.out.size _⟩, ⟨by simp⟩⟩
  case round =>
    obtain ⟨k, xs, hk, hg, rfl, hxs, HO, HB, HA⟩ := hrel
    have HXS := As.mk hxs
    clear hxs
    by_cases hlt : k < cols.length
    · have hltz : (k : Int) < (cols.length : Int) := by omega
      obtain ⟨i, hi⟩ : ∃ i, cols[k]? = some i := ⟨_, List.getElem?_eq_getElem hlt⟩
      obtain ⟨b, o, c', hv, hb, hiw, c0⟩ := RdI.val HC.out hi
      injection hv with hA _ hcc
      subst hA
      replace c0 := (HB.out.cell (World.block_lt_of_cell? w _ c0)).trans c0
      have HI := As.mk hi
      obtain ⟨hi1, hi2⟩ := hiw
      clear hi hcc
      by_cases hneg : i < 0
      · go_wp2
        go_ret2
        refine ⟨HB.out, ?_⟩
        rw [← HA.out, pickL_stop r cols k i HI.out (.inl hneg)]
        rfl
      · have hnegb : decide (i < 0) = false := by simpa using hneg
        by_cases hbig : (r.length : Int) ≤ i
        · go_wp2
          go_ret2
          refine ⟨HB.out, ?_⟩
          rw [← HA.out, pickL_stop r cols k i HI.out (.inr hbig)]
          rfl
        · have hbigb : decide ((r.length : Int) ≤ i) = false := by simpa using hbig
          obtain ⟨x, hx⟩ : ∃ x, r[i.toNat]? = some x := ⟨_, List.getElem?_eq_getElem (by omega)⟩
          obtain ⟨b2, o2, c2', hv2, hb2, hok2, d0, d1, d2, d3⟩ := RdV.val HR.out hx
          injection hv2 with hA2 _ hcc2
          subst hA2
          replace d0 := (HB.out.cell (World.block_lt_of_cell? w _ d0)).trans d0
          replace d1 := (HB.out.cell (World.block_lt_of_cell? w _ d1)).trans d1
          replace d2 := (HB.out.cell (World.block_lt_of_cell? w _ d2)).trans d2
          replace d3 := (HB.out.cell (World.block_lt_of_cell? w _ d3)).trans d3
          have HX := As.mk (pickL_step r cols k i x HI.out (by omega) hx xs)
          have HK := As.mk hok2
          have HXL : As (xs.length < 4294967296) := ⟨by rw [HXS.out]; omega⟩
          have hi0 : 0 ≤ i := by omega
          have hi3 : i < (r.length : Int) := by omega
          clear hx hcc2 hok2
          go_wp2_with (at_builtin; go_loud (refine OwnL.append w.heap.size rfl (.tmp 37) (.tmp 45) 25 55 _ 4 40 rfl Tryz.underlying25 info_val rfl (by decide) (by decide) _ xs x x.cells rfl rfl (E := EV) ⟨rfl, HK.out⟩ rfl (GV.cells_one x) HO.out HB.out HB.out.size HXL.out rfl ?_); intro v1 w2 hown hb' hg' hat)
          have HO2 := As.mk hown
          have HB2 := As.mk hb'
          clear hown hb' hg' hat
          go_wp2
          go_roundg (cols.length - (k + 1))
          case measure => omega
          case rel => exact ⟨k + 1, xs ++ [x], by omega, by omega, by go_num, by rw [List.length_append, HXS.out]; rfl, HO2, HB2, ⟨by rw [← HA.out, HX.out]⟩⟩
    · have hltz : ¬ (k : Int) < (cols.length : Int) := by omega
      go_wp2
      go_ret2
      refine ⟨HB.out, ?_⟩
      rw [← HA.out, List.drop_eq_nil_of_le (by omega)]
      exact ⟨_, rfl, OwnL.rd (by simpa using HO.out) (fun k hk => ⟨hk, by simp⟩)⟩
theorem r2Pick_any (v u : Value) (r : List GV) (cols : List Int) (w : World) (hr : RdV w AnyB v r) (hc : RdI w AnyB u cols) :
    Calls Tryz.prog 22 #[v, u] w (PickPost w (pick r cols)) := by
  unfold pick
  by_cases h : rsound r = true ∧ cols.length ≤ 1024
  · rw [if_pos h]
    exact r2Pick_good v u r cols w hr hc h.1 h.2
  · rw [if_neg h]
    exact (r2Pick_bad v u r cols w hr hc h).mono fun _ _ ⟨he, hb⟩ => ⟨hb, he⟩
end Go.Proofs.YtmpndmjfdijamaaGreatDoor
