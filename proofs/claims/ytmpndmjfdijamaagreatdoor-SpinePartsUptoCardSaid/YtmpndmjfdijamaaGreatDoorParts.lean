/- The walk of the law SpineParts. -/
import Derived.Test.YtmpndmjfdijamaaGreatDoorDelta
import Derived.Test.YtmpndmjfdijamaaGreatDoorAwake2
set_option linter.unusedVariables false
set_option linter.unusedSimpArgs false
namespace Go.Proofs.YtmpndmjfdijamaaGreatDoor
open Go.RowKit Go.Sort
attribute [local go_sem ↓] eqVal neVal
/-! ### Groups of one first column -/
/-- A row's first value. -/
def hd (x : GE) : GV := x.row.headD ⟨0, 0, 0, ⟨#[]⟩⟩
theorem pick_one {y : GV} {r : List GV} (h : rsound (y :: r) = true) : pick (y :: r) [0] = some [y] := by unfold pick; rw [if_pos ⟨h, by simp⟩]; rfl
theorem row_one {r : List GV} {k : List GV} (h : pick r [0] = some k) : ∃ y s, r = y :: s := by
  unfold pick at h
  split at h
  · cases r with
    | nil => simp [pickL] at h
    | cons y s => exact ⟨y, s, rfl⟩
  · cases h
/-- A multiset each of whose rows has a first value. -/
structure Firsts (z : List GE) : Prop where
  ok : ZOk z
  ne : ∀ x ∈ z, ∃ y s, x.row = y :: s
theorem Firsts.le {z : List GE} (h : Firsts z) {i j : Nat} {x y : GE} (hij : i < j) (hx : z[i]? = some x) (hy : z[j]? = some y) : vlex (hd x) (hd y) ≤ 0 := by
  obtain ⟨h1, rfl⟩ := List.getElem?_eq_some_iff.1 hx
  obtain ⟨h2, rfl⟩ := List.getElem?_eq_some_iff.1 hy
  have h3 := List.pairwise_iff_getElem.1 h.ok.rise i j h1 h2 hij
  obtain ⟨a, r, ha⟩ := h.ne z[i] (List.getElem_mem _)
  obtain ⟨b, s, hb⟩ := h.ne z[j] (List.getElem_mem _)
  unfold hd
  rw [ha, hb] at h3 ⊢
  unfold rlex orv at h3
  show vlex a b ≤ 0
  split at h3 <;> omega
theorem Firsts.eq {z : List GE} (h : Firsts z) {x y : GE} (hx : x ∈ z) (hy : y ∈ z) (h0 : vlex (hd x) (hd y) = 0) : hd x = hd y := by
  obtain ⟨a, r, ha⟩ := h.ne x hx
  obtain ⟨b, s, hb⟩ := h.ne y hy
  have ox := h.ok.row x hx
  have oy := h.ok.row y hy
  unfold hd at *
  rw [ha] at ox h0 ⊢
  rw [hb] at oy h0 ⊢
  exact vlex_eq (ox.2 a (by simp)) (oy.2 b (by simp)) ((rsound_at ox.1).2 a (by simp)) ((rsound_at oy.1).2 b (by simp)) h0
theorem keyIs_hd {z : List GE} (h : Firsts z) {x : GE} (hx : x ∈ z) (v : GV) : keyIs [0] [v] x.row = (hd x).same v := by
  obtain ⟨a, r, ha⟩ := h.ne x hx
  have o := (h.ok.row x hx).1
  unfold keyIs hd
  rw [ha] at o ⊢
  rw [pick_one o]
  simp [sameR, allS]
/-- The group that begins at i. -/
theorem Firsts.group {z : List GE} (h : Firsts z) {i : Nat} {x : GE} (hx : z[i]? = some x) (hpre : ∀ y, 0 < i → z[i - 1]? = some y → hd y ≠ hd x) :
    ∃ m, 1 ≤ m ∧ i + m ≤ z.length ∧ z.filter (fun y => keyIs [0] [hd x] y.row) = (z.drop i).take m ∧ (∀ j y, i ≤ j → j < i + m → z[j]? = some y → hd y = hd x) ∧ (∀ y, z[i + m]? = some y → hd y ≠ hd x) := by
  have hil := (List.getElem?_eq_some_iff.1 hx).1
  have hxm : x ∈ z := List.mem_of_getElem? hx
  let p : GE → Bool := fun y => (hd y).same (hd x)
  have hp : ∀ y, p y = true ↔ hd y = hd x := fun y => GV.same_eq
  have hfc : z.filter (fun y => keyIs [0] [hd x] y.row) = z.filter p := List.filter_congr fun y hy => keyIs_hd h hy _
  obtain ⟨a, b, hab, ha, hb⟩ : ∃ a b, z.drop i = a ++ b ∧ (∀ y ∈ a, p y = true) ∧ (∀ y, b[0]? = some y → p y = false) := by
    refine ⟨(z.drop i).takeWhile p, (z.drop i).dropWhile p, List.takeWhile_append_dropWhile.symm, fun y hy => List.all_eq_true.1 List.all_takeWhile y hy, fun y hy => ?_⟩
    cases hdw : (z.drop i).dropWhile p with
    | nil => rw [hdw] at hy; simp at hy
    | cons u t =>
      have := List.head_dropWhile_not p (l := z.drop i) (by rw [hdw]; simp)
      simp only [hdw, List.head_cons] at this
      rw [hdw] at hy
      have hu : u = y := by simpa using hy
      rw [← hu]; exact this
  have hhead : z.drop i = x :: z.drop (i + 1) := by
    obtain ⟨h1, rfl⟩ := List.getElem?_eq_some_iff.1 hx
    exact List.drop_eq_getElem_cons h1
  have hm1 : 1 ≤ a.length := by
    cases a with
    | nil =>
      rw [List.nil_append] at hab
      have := hb x (by rw [← hab, hhead]; rfl)
      rw [(hp x).2 rfl] at this
      cases this
    | cons _ _ => simp
  have hlen : a.length + b.length = z.length - i := by rw [← List.length_append, ← hab, List.length_drop]
  have htk : (z.drop i).take a.length = a := by rw [hab]; exact List.take_left
  have hat : ∀ j, i ≤ j → j < i + a.length → ∀ y, z[j]? = some y → hd y = hd x := fun j h1 h2 y hy => by
    have h3 : (z.drop i)[j - i]? = some y := by rw [List.getElem?_drop, show i + (j - i) = j by omega]; exact hy
    rw [hab, List.getElem?_append_left (by omega)] at h3
    exact (hp y).1 (ha y (List.mem_of_getElem? h3))
  have hnext : ∀ y, z[i + a.length]? = some y → hd y ≠ hd x := fun y hy => by
    have h3 : (z.drop i)[a.length]? = some y := by rw [List.getElem?_drop]; exact hy
    rw [hab, List.getElem?_append_right (Nat.le_refl _), Nat.sub_self] at h3
    intro he
    have := hb y h3
    rw [(hp y).2 he] at this
    cases this
  clear htk
  generalize a.length = m at *
  refine ⟨m, hm1, by omega, ?_, fun j y h1 h2 hy => hat j h1 h2 y hy, hnext⟩
  rw [hfc]
  conv => lhs; rw [← List.take_append_drop i z, List.filter_append, ← List.take_append_drop m (z.drop i), List.filter_append, List.drop_drop]
  have e1 : (z.take i).filter p = [] := by
    rw [List.filter_eq_nil_iff]
    intro y hy hpy
    obtain ⟨j, hj⟩ := List.mem_iff_getElem?.1 hy
    have hji : j < i := by have := (List.getElem?_eq_some_iff.1 hj).1; rw [List.length_take] at this; omega
    rw [List.getElem?_take_of_lt hji] at hj
    obtain ⟨u, hu⟩ : ∃ u, z[i - 1]? = some u := ⟨_, List.getElem?_eq_getElem (by omega)⟩
    have hne := hpre u (by omega) hu
    have l2 := h.le (show i - 1 < i by omega) hu hx
    have l1 : vlex (hd y) (hd u) ≤ 0 := by
      rcases Nat.lt_or_ge j (i - 1) with hlt | hge
      · exact h.le hlt hj hu
      · have : j = i - 1 := by omega
        subst this
        rw [hu] at hj
        rw [Option.some.inj hj]
        exact Int.le_of_eq (vlex_cmp.refl _)
    rw [(hp y).1 hpy] at l1
    have := vlex_cmp.flip (hd x) (hd u)
    have := vlex_cmp.flip (hd u) (hd x)
    exact hne (h.eq (List.mem_of_getElem? hu) hxm (by omega))
  have e2 : ((z.drop i).take m).filter p = (z.drop i).take m := by
    rw [List.filter_eq_self]
    intro y hy
    obtain ⟨j, hj⟩ := List.mem_iff_getElem?.1 hy
    have hjm : j < m := by have := (List.getElem?_eq_some_iff.1 hj).1; rw [List.length_take] at this; omega
    rw [List.getElem?_take_of_lt hjm, List.getElem?_drop] at hj
    exact (hp y).2 (hat (i + j) (by omega) (by omega) y hj)
  have e3 : (z.drop (i + m)).filter p = [] := by
    rw [List.filter_eq_nil_iff]
    intro y hy hpy
    obtain ⟨j, hj⟩ := List.mem_iff_getElem?.1 hy
    rw [List.getElem?_drop] at hj
    have hjl := (List.getElem?_eq_some_iff.1 hj).1
    obtain ⟨u, hu⟩ : ∃ u, z[i + m]? = some u := ⟨_, List.getElem?_eq_getElem (by omega)⟩
    have hne := hnext u hu
    have l1 := h.le (show i < i + m by omega) hx hu
    have l2 : vlex (hd u) (hd y) ≤ 0 := by
      rcases Nat.eq_zero_or_pos j with h0 | h0
      · subst h0
        rw [Nat.add_zero, hu] at hj
        rw [Option.some.inj hj]
        exact Int.le_of_eq (vlex_cmp.refl _)
      · exact h.le (show i + m < i + m + j by omega) hu hj
    rw [(hp y).1 hpy] at l2
    have := vlex_cmp.flip (hd x) (hd u)
    have := vlex_cmp.flip (hd u) (hd x)
    exact hne (h.eq (List.mem_of_getElem? hu) hxm (by omega))
  rw [e1, e2, e3, List.append_nil, List.nil_append]
/-- Where the counter stands ahead of entry i. -/
structure Stand (z : List GE) (i n : Nat) : Prop where
  le : i ≤ n
  len : n ≤ z.length
  zero : i = 0 → n = 0
  same : ∀ j x y, i ≤ j → j < n → 0 < i → z[j]? = some x → z[i - 1]? = some y → hd x = hd y
  next : ∀ x y, 0 < i → z[n]? = some x → z[i - 1]? = some y → hd x ≠ hd y
theorem Stand.first (z : List GE) : Stand z 0 0 := ⟨Nat.le_refl _, Nat.zero_le _, fun _ => rfl, fun _ _ _ _ h => by omega, fun _ _ h => by omega⟩
theorem Stand.skip {z : List GE} {i n : Nat} {x y : GE} (h : Stand z i n) (hi : 0 < i) (hx : z[i]? = some x) (hy : z[i - 1]? = some y) (he : hd x = hd y) : Stand z (i + 1) n := by
  have hn : i ≠ n := fun e => h.next x y hi (e ▸ hx) hy he
  have := h.le
  refine ⟨by omega, h.len, by omega, fun j u v h1 h2 _ hu hv => ?_, fun u v _ hu hv => ?_⟩
  · rw [Nat.add_sub_cancel, hx] at hv
    rw [← Option.some.inj hv, he]
    exact h.same j u y (by omega) h2 hi hu hy
  · rw [Nat.add_sub_cancel, hx] at hv
    rw [← Option.some.inj hv, he]
    exact h.next u y hi hu hy
theorem Stand.at {z : List GE} {i n : Nat} {x : GE} (h : Stand z i n) (hx : z[i]? = some x) (hd' : ∀ y, 0 < i → z[i - 1]? = some y → hd y ≠ hd x) : n = i := by
  rcases Nat.eq_zero_or_pos i with h0 | h0
  · subst h0; exact h.zero rfl
  · have := h.le
    rcases Nat.lt_or_eq_of_le this with h1 | h1
    · obtain ⟨y, hy⟩ : ∃ y, z[i - 1]? = some y := ⟨_, List.getElem?_eq_getElem (by have := (List.getElem?_eq_some_iff.1 hx).1; omega)⟩
      exact absurd (h.same i x y (Nat.le_refl _) h1 h0 hx hy).symm (hd' y h0 hy)
    · exact h1.symm
theorem Stand.group {z : List GE} {i m : Nat} {x : GE} (hx : z[i]? = some x) (hm : 1 ≤ m) (hl : i + m ≤ z.length) (h1 : ∀ j y, i ≤ j → j < i + m → z[j]? = some y → hd y = hd x) (h2 : ∀ y, z[i + m]? = some y → hd y ≠ hd x) : Stand z (i + 1) (i + m) := by
  refine ⟨by omega, hl, by omega, fun j u v a b _ hu hv => ?_, fun u v _ hu hv => ?_⟩
  · rw [Nat.add_sub_cancel, hx] at hv
    rw [← Option.some.inj hv]
    exact h1 j u (by omega) b hu
  · rw [Nat.add_sub_cancel, hx] at hv
    rw [← Option.some.inj hv]
    exact h2 u hu
theorem Stand.last {z : List GE} {n : Nat} (h : Stand z z.length n) : n = z.length := by have := h.le; have := h.len; omega
theorem told_firsts {S : GS} {z : List GE} (ht : Told S z) (hc : S.cols = [0]) : Firsts z := ⟨ht.ok, fun x hx => by
  obtain ⟨k, hk⟩ := ht.key x hx
  rw [hc] at hk
  exact row_one hk⟩
set_option maxHeartbeats 8000000 in
set_option maxRecDepth 100000 in
theorem lawParts_any (v : Value) (ds : List (List GE)) (w : World) (hw : GW w) (ha : RdD w AnyB v ds) :
    Calls Tryz.prog 5 #[v] w fun e w' => e = .returned (.bool true) ∧ Below w.heap.size w w' := by
  have h0 := awake_any w hw
  obtain ⟨iv0, hiv, hivz⟩ := Option.map_eq_some_iff.1 info_val
  obtain ⟨ie0, hie, hiez⟩ := Option.map_eq_some_iff.1 info_entry
  simp only [Prod.mk.injEq] at hivz hiez
  have HIV := As.mk hiv
  have HZV := As.mk hivz.2.1
  have HIE := As.mk hie
  have HZE := As.mk hiez.2.1
  clear hiv hie hivz hiez
  obtain ⟨A, c, rfl, hac⟩ := ha.shape
  have hal := ha.len
  have HW := As.mk hw
  have HAC := As.mk ha
  have hB0 := fun W => (Below.refl W.heap.size W).alloc (Nat.le_refl _) (.cells #[.int .i64 0] 3)
  have h1 := fun W => spNew_good _ _ _ (rdi0 W) (by decide)
  clear ha hw
  go_enter Tryz.func5, Tryz.ntmps5
  go_wp2_with fail
  refine h0.mono ?_
  rintro e w0 ⟨rfl, hBa⟩
  have HBa := As.mk (hBa.trans ((hB0 w0).mono hBa.size))
  clear h0 hBa hB0
  go_wp2_with fail
  refine (h1 w0).mono ?_
  rintro e w2 ⟨b, rfl, hN, hB2⟩
  have hbz : w.heap.size ≤ (w0.alloc (.cells #[.int .i64 0] 3)).heap.size := HBa.out.size
  generalize w0.alloc (.cells #[.int .i64 0] 3) = w1 at *
  have HN := As.mk hN.sp
  have HB2 := As.mk (HBa.out.trans (hB2.mono HBa.out.size))
  have HBB := As.mk hN.1
  have hbase2 := hB2.size
  clear hN hB2 h1
  generalize w1.heap.size = base at *
  go_wp2_with fail
  go_loopg [5] 100 (fun g s5 wr => ∃ (i : Nat), i ≤ 100 ∧ 100 - i ≤ g ∧ s5 = .int .i64 i ∧ base ≤ wr.heap.size ∧ As (RoundT base b w wr [0] i))
  case atStart => exact ⟨0, by omega, by omega, by go_num, hbase2, ⟨⟨⟨[0], [], 0⟩, [], HN.out, Inv.new [0], told_new _, fun x hx => (by cases hx), rfl, by simp [heldL], by simp, HB2.out⟩⟩⟩
  case round =>
    obtain ⟨i, hi, hg, rfl, hbw, HR⟩ := hrel
    by_cases hlt : i < ds.length ∧ i < 100
    · obtain ⟨hlt1, hlt2⟩ := hlt
      have hltz : (i : Int) < (ds.length : Int) := by omega
      have hltz2 : (i : Int) < 100 := by omega
      obtain ⟨d, hx⟩ : ∃ x, ds[i]? = some x := ⟨_, List.getElem?_eq_getElem hlt1⟩
      obtain ⟨S, z, hS, hI, hT, hF, hcs, hH, hL, hBw⟩ := HR.out
      obtain ⟨ba, oa, ca, Ad, dd, hv, hba, hd0, e0w⟩ := HAC.out.delta hx
      have hd := hd0.ext hBw
      have e0 := (hBw.cell (p := ⟨ba, oa + i, none⟩) hba).trans e0w
      clear hd0 e0w
      injection hv with hA' _ hccc
      subst hA'
      by_cases hbig : 100 < d.length
      · have hbz : (100 : Int) < (d.length : Int) := by omega
        clear hS hI hd hx hT hF
        go_wp2_with fail
        go_ret
        exact ⟨rfl, hBw⟩
      · have hbz : ¬ (100 : Int) < (d.length : Int) := by omega
        have hIl := hI.live
        have hIn := hI.fine.nums
        have HPUT := As.mk (put_any base b S (.slice Ad d.length dd) d wr (HW.out.below hBw) (hd.mv (Stays.mono fun _ _ h => h)) hbw hS (fun z hz => (hI.fine z hz).1) (by omega) (by omega) (by omega))
        have HSI := As.mk hI
        have HT := As.mk hT
        have HF := As.mk hF
        have HDV := As.mk hd.vals
        have HBW' := As.mk hBw
        have HCS := As.mk hcs
        have HHL := As.mk hH
        have HLL := As.mk hL
        clear hS hI hd hx hIl hIn hccc hBw hcs hT hF hH hL
        go_wp2_with fail
        refine HPUT.out.mono ?_
        rintro e w3 hpost
        obtain ⟨hM, rfl, S2, hS2, hI2, hc2, hH2, hL2, z2, hT2, hF2, _⟩ := told_put HSI.out HT.out HF.out HDV.out hpost
        have hB3 : As (Below w.heap.size w w3) := ⟨HBW'.out.trans (hM.below (by omega) (by have := HBB.out; omega) HBW'.out.size)⟩
        have hbw2 : base ≤ w3.heap.size := Nat.le_trans hbw hM.size
        have HFIN : As (RoundT base b w w3 [0] (i + 1)) := ⟨S2, z2, hS2, hI2, hT2, hF2, hc2.trans HCS.out, by have := HHL.out; omega, by have := HLL.out; omega, hB3.out⟩
        generalize putE S.cols z d = pe
        clear hM hS2 hI2 hc2 hH2 hL2 hT2 hF2 hpost
        go_wp2_with fail
        go_roundg (100 - (i + 1))
        case measure => omega
        case rel => exact ⟨i + 1, by omega, by omega, by go_num, hbw2, HFIN⟩
    · have hor : ¬ ((i : Int) < (ds.length : Int)) ∨ ((i : Int) < (ds.length : Int) ∧ ¬ (i : Int) < 100) := by omega
      obtain ⟨S, z, hS, hI, hT, hF, hcs, hH, hL, hBw⟩ := HR.out
      have HI := As.mk hI
      have HT := As.mk hT
      have HFS := As.mk (told_firsts hT hcs)
      have HC := As.mk hcs
      have HH : As (heldL S.bs ≤ 4294967296) := ⟨by omega⟩
      have HX := As.mk hBw
      have HSP := As.mk hS
      have hall := all_any base b S wr hS HH.out hI.sound
      clear hS hI hT hF hcs hH hL hBw HR hlt
      rcases hor with hor | ⟨hor1, hor2⟩
      all_goals (
        go_wp2_with fail
        refine hall.mono ?_
        rintro e w3 ⟨v3, rfl, hB3, xs, hp, hso, hrd⟩
        rw [told_all HI.out HT.out hp hso] at hrd
        have HA := As.mk hrd.any
        have HB3 := As.mk hB3
        have HX3 := As.mk (HX.out.trans (hB3.mono HX.out.size))
        have hzl := hrd.len
        obtain ⟨A3, c3, rfl, hc3⟩ := hrd.shape
        clear hp hso hrd hB3 hall
        generalize wr = wq at *
        go_wp2_with fail
        go_loopg [7, 8, 9, 10] z.length (fun g s7 s8 _ _ wr => ∃ (i n : Nat), i ≤ z.length ∧ z.length - i ≤ g ∧ s7 = .int .i64 n ∧ s8 = .int .i64 i ∧ As (Stand z i n) ∧ As (Below w3.heap.size w3 wr))
        case atStart => exact ⟨0, 0, by omega, by omega, by go_num, by go_num, ⟨Stand.first z⟩, ⟨Below.refl _ _⟩⟩
        case round =>
          obtain ⟨i, n, hi, hg, rfl, rfl, HST, HBW⟩ := hrel
          by_cases hlt : i < z.length
          · have hltz : (i : Int) < (z.length : Int) := by omega
            obtain ⟨x, hx⟩ : ∃ x, z[i]? = some x := ⟨_, List.getElem?_eq_getElem hlt⟩
            obtain ⟨y, s, hys⟩ := HFS.out.ne x (List.mem_of_getElem? hx)
            have hxl : ¬ (x.row.length : Int) < 1 := by rw [hys, List.length_cons]; omega
            have HAW := As.mk (HA.out.ext HBW.out)
            obtain ⟨b1, o1, c1, A1, d1, hv, hb1, hxw, hxr, e0, e1⟩ := HAW.out.ent hx
            injection hv with hA _ hcc
            subst hA hcc
            have hx0 : x.row[0]? = some y := by rw [hys]; rfl
            obtain ⟨b2, o2, c2, hv2, hb2, hyo, f0, f1, f2, f3⟩ := hxr.val hx0
            injection hv2 with hA _ hcc
            subst hA hcc
            simp only [Nat.zero_mul, Nat.add_zero] at f0 f1 f2 f3
            have hxd : hd x = y := by unfold hd; rw [hys]; rfl
            have HX0 := As.mk hx
            have HX00 := As.mk hx0
            have HXD := As.mk hxd
            have hrok := HFS.out.ok.row x (List.mem_of_getElem? hx)
            have HONE : As (RowOk [y]) := ⟨by
              rw [hys] at hrok
              obtain ⟨r1, r2⟩ := rsound_at hrok.1
              exact ⟨by simp [rsound, r2 y (by simp)], fun v hv => by rw [List.mem_singleton.1 hv]; exact hrok.2 y (by simp)⟩⟩
            have HXR1 : As (RdV wr AnyB (.slice (some ⟨b2, o2, none⟩) 1 d1) [y]) := ⟨by
              have h := (hxr.upto Tryz.underlying25 HIV.out HZV.out 1 (by omega) .i64).2
              rw [show x.row.take 1 = [y] by rw [hys]; rfl] at h
              exact h⟩
            have hdl : x.row.length ≤ d1 := by
              obtain ⟨_, _, hv', hc'⟩ := hxr.shape
              injection hv' with _ _ h3
              omega
            clear e1 hxw hx0 hrok hx hys hxd
            have hxb : decide ((x.row.length : Int) < 1) = false := decide_eq_false hxl
            have hd1c : 1 ≤ d1 := by omega
            by_cases h0 : i = 0
            · have hn0 : i = n := by rw [h0]; exact (HST.out.zero h0).symm
              subst hn0
              have hi0 : decide ((0 : Int) < (i : Int)) = false := decide_eq_false (by omega)
              have hi1 : decide (0 < i) = false := decide_eq_false (by omega)
              have HPRE : As (∀ y, 0 < i → z[i - 1]? = some y → hd y ≠ hd x) := ⟨fun _ h => by omega⟩
              clear h0
              go_wp2_with fail
              go_quiet (fail)
              go_wp2_with fail
              have HB4 : As (Below w3.heap.size w3 (wr.drewN nq)) := ⟨HBW.out.trans ((Ext.drewN (Ext.refl _) nq).below.mono HBW.out.size)⟩
              have hget := get_any base b S (.slice (some ⟨b2, o2, none⟩) 1 d1) [y] (wr.drewN nq) (HW.out.below (HX3.out.trans (HB4.out.mono HX3.out.size))) (HXR1.out.ext (Ext.drewN (Ext.refl _) nq).below) HONE.out.1 ((HSP.out.ext HB3.out).ext HB4.out) (fun z hz => (HI.out.fine z hz).1) HH.out HI.out.sound
              obtain ⟨m, hm1, hml, hfil, hsame, hnext⟩ := HFS.out.group HX0.out HPRE.out
              have HSTN := As.mk (Stand.group HX0.out hm1 hml hsame hnext)
              refine hget.mono ?_
              rintro e w4 ⟨v4, rfl, hB4, gs, hp, hso, hrd⟩
              have hgs : gs = (z.drop i).take m := by rw [told_get HI.out HT.out HONE.out hp hso, HC.out, ← HXD.out]; exact hfil
              have hgl : gs.length = m := by rw [hgs, List.length_take, List.length_drop]; omega
              have HGA : As (∀ k, k < m → gs[k]? = z[i + k]?) := ⟨fun k hk => by rw [hgs, List.getElem?_take_of_lt hk, List.getElem?_drop]⟩
              have HSA := As.mk hsame
              have HG := As.mk hrd.any
              have HB5 := As.mk (HB4.out.trans (hB4.mono HB4.out.size))
              obtain ⟨A4, c4, rfl, hc4⟩ := hrd.shape
              have hgll := hrd.len
              clear hget hfil hsame hnext hp hso hrd hB4 hgs
              generalize wr = wp at *
              go_wp2_with fail
              go_loopg [7, 10] gs.length (fun g s7 s10 wr => ∃ (k : Nat), k ≤ gs.length ∧ gs.length - k ≤ g ∧ s7 = .int .i64 ((i : Int) + (k : Int)) ∧ s10 = .int .i64 k ∧ As (Below w4.heap.size w4 wr))
              case atStart => exact ⟨0, by omega, by omega, by first | go_num | simp, by go_num, ⟨Below.refl _ _⟩⟩
              case round =>
                obtain ⟨k, hk, hg2, rfl, rfl, HBK⟩ := hrel
                by_cases hlt2 : k < gs.length
                · have hltz2 : (k : Int) < (gs.length : Int) := by omega
                  have hnz : ¬ (z.length : Int) ≤ (i : Int) + (k : Int) := by omega
                  obtain ⟨y', hy'⟩ : ∃ x, gs[k]? = some x := ⟨_, List.getElem?_eq_getElem hlt2⟩
                  have hzy : z[i + k]? = some y' := by rw [← HGA.out k (by omega)]; exact hy'
                  have HGK := HG.out.ext HBK.out
                  have HAK := HA.out.ext (HB5.out.trans (HBK.out.mono HB5.out.size))
                  obtain ⟨Aa, hsla, hra⟩ := RdL.part Tryz.underlying35 HIE.out HZE.out HAK (i + k) (i + k + 1) (by omega) (by omega) .i64 .i64
                  rw [show i + k + 1 - (i + k) = 1 by omega] at hsla hra
                  have hsla' : ∀ W, (Instr.slice 35 (.slice (some ⟨b1, o1, none⟩) z.length c3) (some (.int .i64 ((i : Int) + (k : Int)))) (some (.int .i64 ((i : Int) + (k : Int) + 1))) none).run Tryz.prog W = .ok (.slice Aa 1 (c3 - (i + k))) W := fun W => by have := hsla W; push_cast at this; exact this
                  have e1 : (gs.drop k).take 1 = [y'] := by
                    obtain ⟨h1, rfl⟩ := List.getElem?_eq_some_iff.1 hy'
                    rw [List.drop_eq_getElem_cons h1]; rfl
                  have e2 : (z.drop (i + k)).take 1 = [y'] := by
                    obtain ⟨h1, rfl⟩ := List.getElem?_eq_some_iff.1 hzy
                    rw [List.drop_eq_getElem_cons h1]; rfl
                  rw [e2] at hra
                  have HRA : As (RdZ wr AnyB (.slice Aa 1 (c3 - (i + k))) [y']) := ⟨hra⟩
                  have hyd : hd y' = y := (HSA.out (i + k) y' (by omega) (by omega) hzy).trans HXD.out
                  obtain ⟨q, s', hqs⟩ := HFS.out.ne y' (List.mem_of_getElem? hzy)
                  obtain ⟨b6, o6, c6, A6, d6, hv, hb6, _, hgr, g0, _⟩ := HGK.ent hy'
                  injection hv with hA _ hcc
                  subst hA
                  clear hcc
                  have HRG : As (RdZ wr AnyB (.slice (some ⟨b6, o6 + k * 2, none⟩) 1 (c4 - k)) [y']) := ⟨by
                    have h := RdL.cutAt HGK k (k + 1) (by omega) (by omega)
                    rw [if_neg (by omega), Option.map_some, add_lit, show k + 1 - k = 1 by omega, e1] at h
                    exact h⟩
                  have hq : q = y := by rw [← hyd]; unfold hd; rw [hqs]; rfl
                  have hy0 : y'.row[0]? = some y := by rw [hqs, hq]; rfl
                  obtain ⟨b7, o7, c7, hv2, hb7, _, k0, k1, k2, k3⟩ := hgr.val hy0
                  injection hv2 with hA _ hcc
                  subst hA
                  clear hcc
                  simp only [Nat.zero_mul, Nat.add_zero] at k0 k1 k2 k3
                  have hyl : (0 : Int) < (y'.row.length : Int) := by rw [hqs, List.length_cons]; omega
                  have hBX := HB5.out.trans (HBK.out.mono HB5.out.size)
                  obtain ⟨b8, o8, c8, A8, d8, hv3, hb8, _, hxr8, j0, _⟩ := HAK.ent HX0.out
                  injection hv3 with hA _ hcc
                  injection hA with hA
                  injection hA with hA1 hA2 _
                  subst hA1 hA2
                  clear hcc
                  obtain ⟨b9, o9, c9, hv4, hb9, _, m0, m1, m2, m3⟩ := hxr8.val HX00.out
                  injection hv4 with hA _ hcc
                  subst hA
                  clear hcc
                  simp only [Nat.zero_mul, Nat.add_zero] at m0 m1 m2 m3
                  have hzz : eqGV y.k y.n y.f y.t y.k y.n y.f y.t = true := by simp [eqGV]
                  have hxl2 : (0 : Int) < (x.row.length : Int) := by omega
                  clear hsla hra e1 e2 hyd hqs hq hy0 hgr hxr8 hy' hzy HGK HAK hBX
                  have hnb : decide ((z.length : Int) ≤ (i : Int) + (k : Int)) = false := decide_eq_false hnz
                  have hnb2 : decide (z.length ≤ i + k) = false := decide_eq_false (by omega)
                  have h2 : ∀ n, Calls Tryz.prog 18 #[.slice (some ⟨b6, o6 + k * 2, none⟩) 1 (c4 - k), .slice Aa 1 (c3 - (i + k))] (wr.drewN n) fun e w' => e = .returned (.bool true) ∧ ∃ m, w' = (wr.drewN n).drewN m := fun n => by
                    have h := same3_any _ _ [y'] [y'] (wr.drewN n) (RdZ.ext HRG.out (Ext.drewN (Ext.refl wr) n).below) (RdZ.ext HRA.out (Ext.drewN (Ext.refl wr) n).below)
                    rw [(sameZ_eq _ _).2 rfl] at h
                    exact h
                  go_wp2_with fail
                  go_big_quiet ((go_at_call 18; exact Calls.quiet_of (h2 _)))
                  go_wp2_with fail
                  go_roundg (gs.length - (k + 1))
                  case measure => omega
                  case rel => exact ⟨k + 1, by omega, by omega, by first | go_num | (push_cast; rw [Int.add_assoc]), by go_num, ⟨HBK.out.trans ((Ext.drewN (Ext.refl _) _).below.mono HBK.out.size)⟩⟩
                · have hltz2 : ¬ (k : Int) < (gs.length : Int) := by omega
                  obtain rfl : k = gs.length := by omega
                  go_wp2_with fail
                  go_roundg (z.length - (i + 1))
                  case measure => omega
                  case rel => exact ⟨i + 1, i + m, by omega, by omega, by first | go_num | (rw [hgl]; go_num), by go_num, HSTN, ⟨HB5.out.trans (HBK.out.mono HB5.out.size)⟩⟩
            · obtain ⟨j, rfl⟩ : ∃ j, i = j + 1 := ⟨i - 1, by omega⟩
              obtain ⟨u, hu⟩ : ∃ x, z[j]? = some x := ⟨_, List.getElem?_eq_getElem (by omega)⟩
              obtain ⟨q, s', hqs⟩ := HFS.out.ne u (List.mem_of_getElem? hu)
              obtain ⟨b3, o3, c3', A4, d4, hv, hb3, huw, hur, g0, g1⟩ := HAW.out.ent hu
              injection hv with hA _ hcc
              injection hA with hA
              injection hA with hA1 hA2 _
              subst hA1 hA2
              clear hcc
              have hu0 : u.row[0]? = some q := by rw [hqs]; rfl
              obtain ⟨b5, o5, c5, hv2, hb5, hqo, k0, k1, k2, k3⟩ := hur.val hu0
              injection hv2 with hA _ hcc
              subst hA
              clear hcc
              simp only [Nat.zero_mul, Nat.add_zero] at k0 k1 k2 k3
              have hud : hd u = q := by unfold hd; rw [hqs]; rfl
              have hul : (0 : Int) < (u.row.length : Int) := by rw [hqs, List.length_cons]; omega
              have hi0 : decide ((0 : Int) < (j : Int) + 1) = true := decide_eq_true (by omega)
              have HU0 := As.mk hu
              have HUD := As.mk hud
              clear huw hur g1 hqs hu hu0 hud
              have HQY : As (y.same q = eqGV y.k y.n y.f y.t q.k q.n q.f q.t) := ⟨rfl⟩
              cases hz : eqGV y.k y.n y.f y.t q.k q.n q.f q.t with
              | true =>
                have HEQ : As (hd x = hd u) := ⟨by rw [HXD.out, HUD.out]; exact GV.same_eq.1 (HQY.out.trans hz)⟩
                go_wp2_with fail
                go_quiet (fail)
                go_wp2_with fail
                go_roundg (z.length - (j + 1 + 1))
                case measure => omega
                case rel => exact ⟨j + 1 + 1, n, by omega, by omega, by go_num, by go_num, ⟨HST.out.skip (by omega) HX0.out HU0.out HEQ.out⟩, ⟨HBW.out.trans ((Ext.drewN (Ext.refl _) _).below.mono HBW.out.size)⟩⟩
              | false =>
                have HNE : As (hd u ≠ hd x) := ⟨by rw [HXD.out, HUD.out]; rintro rfl; rw [← HQY.out, GV.same_eq.2 rfl] at hz; cases hz⟩
                have HPRE : As (∀ y, 0 < j + 1 → z[j + 1 - 1]? = some y → hd y ≠ hd x) := ⟨fun y' _ h => by rw [Nat.add_sub_cancel, HU0.out] at h; rw [← Option.some.inj h]; exact HNE.out⟩
                have hn0 : n = j + 1 := HST.out.at HX0.out HPRE.out
                subst hn0
                go_wp2_with fail
                go_quiet (fail)
                go_wp2_with fail
                clear hi0 hz HQY k0 k1 k2 k3 HU0 HUD hul g0
                rw [show (j : Int) + 1 = ((j + 1 : Nat) : Int) by omega]
                generalize j + 1 = i at *
                have HB4 : As (Below w3.heap.size w3 (wr.drewN nq)) := ⟨HBW.out.trans ((Ext.drewN (Ext.refl _) nq).below.mono HBW.out.size)⟩
                have hget := get_any base b S (.slice (some ⟨b2, o2, none⟩) 1 d1) [y] (wr.drewN nq) (HW.out.below (HX3.out.trans (HB4.out.mono HX3.out.size))) (HXR1.out.ext (Ext.drewN (Ext.refl _) nq).below) HONE.out.1 ((HSP.out.ext HB3.out).ext HB4.out) (fun z hz => (HI.out.fine z hz).1) HH.out HI.out.sound
                obtain ⟨m, hm1, hml, hfil, hsame, hnext⟩ := HFS.out.group HX0.out HPRE.out
                have HSTN := As.mk (Stand.group HX0.out hm1 hml hsame hnext)
                refine hget.mono ?_
                rintro e w4 ⟨v4, rfl, hB4, gs, hp, hso, hrd⟩
                have hgs : gs = (z.drop i).take m := by rw [told_get HI.out HT.out HONE.out hp hso, HC.out, ← HXD.out]; exact hfil
                have hgl : gs.length = m := by rw [hgs, List.length_take, List.length_drop]; omega
                have HGA : As (∀ k, k < m → gs[k]? = z[i + k]?) := ⟨fun k hk => by rw [hgs, List.getElem?_take_of_lt hk, List.getElem?_drop]⟩
                have HSA := As.mk hsame
                have HG := As.mk hrd.any
                have HB5 := As.mk (HB4.out.trans (hB4.mono HB4.out.size))
                obtain ⟨A4, c4, rfl, hc4⟩ := hrd.shape
                have hgll := hrd.len
                clear hget hfil hsame hnext hp hso hrd hB4 hgs
                generalize wr = wp at *
                go_wp2_with fail
                go_loopg [7, 10] gs.length (fun g s7 s10 wr => ∃ (k : Nat), k ≤ gs.length ∧ gs.length - k ≤ g ∧ s7 = .int .i64 ((i : Int) + (k : Int)) ∧ s10 = .int .i64 k ∧ As (Below w4.heap.size w4 wr))
                case atStart => exact ⟨0, by omega, by omega, by first | go_num | simp, by go_num, ⟨Below.refl _ _⟩⟩
                case round =>
                  obtain ⟨k, hk, hg2, rfl, rfl, HBK⟩ := hrel
                  by_cases hlt2 : k < gs.length
                  · have hltz2 : (k : Int) < (gs.length : Int) := by omega
                    have hnz : ¬ (z.length : Int) ≤ (i : Int) + (k : Int) := by omega
                    obtain ⟨y', hy'⟩ : ∃ x, gs[k]? = some x := ⟨_, List.getElem?_eq_getElem hlt2⟩
                    have hzy : z[i + k]? = some y' := by rw [← HGA.out k (by omega)]; exact hy'
                    have HGK := HG.out.ext HBK.out
                    have HAK := HA.out.ext (HB5.out.trans (HBK.out.mono HB5.out.size))
                    obtain ⟨Aa, hsla, hra⟩ := RdL.part Tryz.underlying35 HIE.out HZE.out HAK (i + k) (i + k + 1) (by omega) (by omega) .i64 .i64
                    rw [show i + k + 1 - (i + k) = 1 by omega] at hsla hra
                    have hsla' : ∀ W, (Instr.slice 35 (.slice (some ⟨b1, o1, none⟩) z.length c3) (some (.int .i64 ((i : Int) + (k : Int)))) (some (.int .i64 ((i : Int) + (k : Int) + 1))) none).run Tryz.prog W = .ok (.slice Aa 1 (c3 - (i + k))) W := fun W => by have := hsla W; push_cast at this; exact this
                    have e1 : (gs.drop k).take 1 = [y'] := by
                      obtain ⟨h1, rfl⟩ := List.getElem?_eq_some_iff.1 hy'
                      rw [List.drop_eq_getElem_cons h1]; rfl
                    have e2 : (z.drop (i + k)).take 1 = [y'] := by
                      obtain ⟨h1, rfl⟩ := List.getElem?_eq_some_iff.1 hzy
                      rw [List.drop_eq_getElem_cons h1]; rfl
                    rw [e2] at hra
                    have HRA : As (RdZ wr AnyB (.slice Aa 1 (c3 - (i + k))) [y']) := ⟨hra⟩
                    have hyd : hd y' = y := (HSA.out (i + k) y' (by omega) (by omega) hzy).trans HXD.out
                    obtain ⟨q, s', hqs⟩ := HFS.out.ne y' (List.mem_of_getElem? hzy)
                    obtain ⟨b6, o6, c6, A6, d6, hv, hb6, _, hgr, g0, _⟩ := HGK.ent hy'
                    injection hv with hA _ hcc
                    subst hA
                    clear hcc
                    have HRG : As (RdZ wr AnyB (.slice (some ⟨b6, o6 + k * 2, none⟩) 1 (c4 - k)) [y']) := ⟨by
                      have h := RdL.cutAt HGK k (k + 1) (by omega) (by omega)
                      rw [if_neg (by omega), Option.map_some, add_lit, show k + 1 - k = 1 by omega, e1] at h
                      exact h⟩
                    have hq : q = y := by rw [← hyd]; unfold hd; rw [hqs]; rfl
                    have hy0 : y'.row[0]? = some y := by rw [hqs, hq]; rfl
                    obtain ⟨b7, o7, c7, hv2, hb7, _, k0, k1, k2, k3⟩ := hgr.val hy0
                    injection hv2 with hA _ hcc
                    subst hA
                    clear hcc
                    simp only [Nat.zero_mul, Nat.add_zero] at k0 k1 k2 k3
                    have hyl : (0 : Int) < (y'.row.length : Int) := by rw [hqs, List.length_cons]; omega
                    have hBX := HB5.out.trans (HBK.out.mono HB5.out.size)
                    obtain ⟨b8, o8, c8, A8, d8, hv3, hb8, _, hxr8, j0, _⟩ := HAK.ent HX0.out
                    injection hv3 with hA _ hcc
                    injection hA with hA
                    injection hA with hA1 hA2 _
                    subst hA1 hA2
                    clear hcc
                    obtain ⟨b9, o9, c9, hv4, hb9, _, m0, m1, m2, m3⟩ := hxr8.val HX00.out
                    injection hv4 with hA _ hcc
                    subst hA
                    clear hcc
                    simp only [Nat.zero_mul, Nat.add_zero] at m0 m1 m2 m3
                    have hzz : eqGV y.k y.n y.f y.t y.k y.n y.f y.t = true := by simp [eqGV]
                    have hxl2 : (0 : Int) < (x.row.length : Int) := by omega
                    clear hsla hra e1 e2 hyd hqs hq hy0 hgr hxr8 hy' hzy HGK HAK hBX
                    have hnb : decide ((z.length : Int) ≤ (i : Int) + (k : Int)) = false := decide_eq_false hnz
                    have hnb2 : decide (z.length ≤ i + k) = false := decide_eq_false (by omega)
                    have h2 : ∀ n, Calls Tryz.prog 18 #[.slice (some ⟨b6, o6 + k * 2, none⟩) 1 (c4 - k), .slice Aa 1 (c3 - (i + k))] (wr.drewN n) fun e w' => e = .returned (.bool true) ∧ ∃ m, w' = (wr.drewN n).drewN m := fun n => by
                      have h := same3_any _ _ [y'] [y'] (wr.drewN n) (RdZ.ext HRG.out (Ext.drewN (Ext.refl wr) n).below) (RdZ.ext HRA.out (Ext.drewN (Ext.refl wr) n).below)
                      rw [(sameZ_eq _ _).2 rfl] at h
                      exact h
                    go_wp2_with fail
                    go_big_quiet ((go_at_call 18; exact Calls.quiet_of (h2 _)))
                    go_wp2_with fail
                    go_roundg (gs.length - (k + 1))
                    case measure => omega
                    case rel => exact ⟨k + 1, by omega, by omega, by first | go_num | (push_cast; rw [Int.add_assoc]), by go_num, ⟨HBK.out.trans ((Ext.drewN (Ext.refl _) _).below.mono HBK.out.size)⟩⟩
                  · have hltz2 : ¬ (k : Int) < (gs.length : Int) := by omega
                    obtain rfl : k = gs.length := by omega
                    go_wp2_with fail
                    go_roundg (z.length - (i + 1))
                    case measure => omega
                    case rel => exact ⟨i + 1, i + m, by omega, by omega, by first | go_num | (rw [hgl]; go_num), by go_num, HSTN, ⟨HB5.out.trans (HBK.out.mono HB5.out.size)⟩⟩
          · have hltz : ¬ (i : Int) < (z.length : Int) := by omega
            obtain rfl : i = z.length := by omega
            have hn := HST.out.last
            subst hn
            go_wp2_with fail
            go_ret
            exact ⟨ret_bool (by simp), HX3.out.trans (HBW.out.mono HX3.out.size)⟩)
end Go.Proofs.YtmpndmjfdijamaaGreatDoor
