/- The walk of a spine's Get. -/
import Derived.Test.YtmpndmjfdijamaaGreatDoorAll
set_option linter.unusedVariables false
set_option linter.unusedSimpArgs false
namespace Go.Proofs.YtmpndmjfdijamaaGreatDoor
open Go.RowKit Go.Sort
/-- A batch's items with a key. -/
def keyed (k : ByteArray) (z : List GI) : List GI := z.filter fun x => decide (x.key = k)
/-- All batches' items with a key. -/
def getL (bs : List (List GI)) (k : ByteArray) : List GI := allL (bs.map (keyed k))
theorem keyed_held (k : ByteArray) (bs : List (List GI)) : heldL (bs.map (keyed k)) ≤ heldL bs := by
  induction bs with
  | nil => simp [heldL]
  | cons z bs ih =>
    simp only [List.map_cons, heldL]
    have := List.length_filter_le (fun x : GI => decide (x.key = k)) z
    unfold keyed at ih ⊢
    omega
theorem keyed_part {z : List GI} {k : ByteArray} {i t : Nat} {fb : Bool} (hz : Rise z) (hf : Found (fun x => scmp x.key k) z i fb) (hit : i ≤ t) (ht : t ≤ z.length) (hm : ∀ (s : Nat) (x : GI), i ≤ s → s < t → z[s]? = some x → x.key = k)
    (hn : ∀ x, z[t]? = some x → x.key ≠ k) : (z.drop i).take (t - i) = keyed k z := by
  have e1 : z = z.take i ++ ((z.drop i).take (t - i) ++ z.drop t) := by
    have h1 := List.take_append_drop i z
    have h2 := List.take_append_drop (t - i) (z.drop i)
    rw [List.drop_drop, show i + (t - i) = t by omega] at h2
    rw [h2, h1]
  have a1 : (z.take i).filter (fun x => decide (x.key = k)) = [] := by
    rw [List.filter_eq_nil_iff]
    intro x hx
    obtain ⟨j, hj⟩ := List.mem_iff_getElem?.1 hx
    have hji : j < i := by have := (List.getElem?_eq_some_iff.1 hj).1; rw [List.length_take] at this; omega
    rw [List.getElem?_take_of_lt hji] at hj
    have := hf.below j x hji hj
    simp only [decide_eq_true_eq]
    rintro rfl
    have := scmp_cmp.refl x.key
    omega
  have a2 : ((z.drop i).take (t - i)).filter (fun x => decide (x.key = k)) = (z.drop i).take (t - i) := by
    rw [List.filter_eq_self]
    intro x hx
    obtain ⟨j, hj⟩ := List.mem_iff_getElem?.1 hx
    have hjl : j < t - i := by have := (List.getElem?_eq_some_iff.1 hj).1; rw [List.length_take] at this; omega
    rw [List.getElem?_take_of_lt hjl, List.getElem?_drop] at hj
    simpa using hm (i + j) x (by omega) (by omega) hj
  have a3 : (z.drop t).filter (fun x => decide (x.key = k)) = [] := by
    rw [List.filter_eq_nil_iff]
    intro x hx
    obtain ⟨j, hj⟩ := List.mem_iff_getElem?.1 hx
    rw [List.getElem?_drop] at hj
    simp only [decide_eq_true_eq]
    intro hk
    have hlt : t < z.length := by have := (List.getElem?_eq_some_iff.1 hj).1; omega
    have ht0 := List.getElem?_eq_getElem hlt
    have h1 := hn _ ht0
    have h2 := hf.above t _ hit ht0
    have h3 : scmp z[t].key k ≠ 0 := fun h => h1 (scmp_eq h)
    rcases Nat.eq_zero_or_pos j with h0 | h0
    · subst h0
      rw [Nat.add_zero, ht0] at hj
      exact h1 (by rw [← hk]; congr 1; exact Option.some.inj hj)
    · have h4 := hz.get (show t < t + j by omega) ht0 hj
      unfold GI.cmp kcmp orv at h4
      rw [hk] at h4
      split at h4 <;> omega
  unfold keyed
  conv => rhs; rw [e1, List.filter_append, List.filter_append, a1, a2, a3]
  simp
theorem get_nil (v : Value) (r : List GV) (w : World) (hw : GW w) (hr : RdV w AnyB v r) : Calls Tryz.prog 19 #[.pointer none, v] w fun e w' => e = .returned (.slice none 0 0) ∧ Below w.heap.size w w' := by
  have h1 := encode_any r v w hr hw
  go_enter Tryz.func19, Tryz.ntmps19
  go_wp2_with (go_at_call 44; refine h1.mono ?_; rintro e w1 ⟨rfl, hB⟩)
  go_ret
  exact ⟨rfl, hB⟩
theorem get_bad (b : Nat) (v : Value) (r : List GV) (w : World) (hw : GW w) (hr : RdV w AnyB v r) (hs : rsound r = false) : Calls Tryz.prog 19 #[.pointer (some ⟨b, 0, none⟩), v] w fun e w' => e = .returned (.slice none 0 0) ∧ Below w.heap.size w w' := by
  have h1 := encode_any r v w hr hw
  have he : encE r = 1 := by unfold encE; rw [hs]; rfl
  rw [he] at h1
  go_enter Tryz.func19, Tryz.ntmps19
  go_wp2_with (go_at_call 44; refine h1.mono ?_; rintro e w1 ⟨rfl, hB⟩)
  go_ret
  exact ⟨rfl, hB⟩
set_option maxHeartbeats 2000000 in
set_option maxRecDepth 100000 in
theorem get_any (base b : Nat) (S : GS) (v : Value) (r : List GV) (w : World) (hw : GW w) (hr : RdV w AnyB v r) (hrs : rsound r = true) (h : SpAt base b w S) (hR : ∀ z ∈ S.bs, Rise z) (hH : heldL S.bs ≤ 4294967296) (hs : ∀ z ∈ S.bs, ∀ u ∈ z, rsound u.row = true) :
    Calls Tryz.prog 19 #[.pointer (some ⟨b, 0, none⟩), v] w (ZPost w (getL S.bs (encB r))) := by
  have h1 := encode_any r v w hr hw
  have he : encE r = 0 := by unfold encE; rw [hrs]; rfl
  rw [he] at h1
  obtain ⟨u, bv, hb, _, hbs⟩ := h.bat
  obtain ⟨A, c, rfl, hc⟩ := hbs.shape
  have hl := hbs.len
  have hkh := keyed_held (encB r) S.bs
  obtain ⟨_, c1, _⟩ := spine_cells hb
  have HB := As.mk hbs
  have HR := As.mk hR
  have HS := As.mk (allL_row (P := fun r => rsound r = true) (S.bs.map (keyed (encB r))) fun z hz u hu => by
    obtain ⟨y, hy, rfl⟩ := List.mem_map.1 hz
    exact hs y hy u (List.mem_filter.1 hu).1)
  obtain ⟨_, bs, _⟩ := S
  unfold ZPost getL
  generalize encB r = k at *
  simp only at *
  obtain ⟨i0, hi, hzz⟩ := Option.map_eq_some_iff.1 info_item
  simp only [Prod.mk.injEq] at hzz
  obtain ⟨_, hz1, _⟩ := hzz
  have HI := As.mk hi
  have HZ1 := As.mk hz1
  clear h hb hbs hs hR hw hr he hrs hi hz1
  go_enter Tryz.func19, Tryz.ntmps19
  go_wp2_with (go_at_call 44; refine h1.mono ?_; rintro e w1 ⟨rfl, hB⟩; have HB1 := As.mk hB; have d1 := (hB.cell (World.block_lt_of_cell? w _ c1)).trans c1; clear hB)
  go_loopg [7, 29] bs.length (fun g s7 s29 wr => ∃ (j : Nat), j ≤ bs.length ∧ bs.length - j ≤ g ∧ s29 = .int .i64 j ∧ As (RdT wr AnyB s7 (allL ((bs.map (keyed k)).take j))) ∧ As (Below w.heap.size w wr))
  case atStart => exact ⟨0, by omega, by omega, by go_num, ⟨RdL.nil _ _ _ _⟩, HB1⟩
  case round =>
    obtain ⟨j, hj, hg, rfl, HRD, HW⟩ := hrel
    by_cases hlt : j < bs.length
    · have hltz : (j : Int) < (bs.length : Int) := by omega
      obtain ⟨z, hz⟩ : ∃ z, bs[j]? = some z := ⟨_, List.getElem?_eq_getElem hlt⟩
      obtain ⟨b0, o, c', hv, hb0, cs, _, ⟨vz, rfl, hvz⟩, _, hcc⟩ := HB.out.at hz
      have e0 := (HW.out.cell (World.block_lt_of_cell? w _ (hcc 0 vz rfl))).trans (hcc 0 vz rfl)
      simp only [Nat.mul_one, Nat.add_zero] at e0
      injection hv with hA _ hccc
      subst hA
      have hvz2 := hvz.ext HW.out
      obtain ⟨Az, cz, rfl, _⟩ := hvz.shape
      have hRz := HR.out z (List.mem_of_getElem? hz)
      have HRZ := As.mk hRz
      have hzl := hvz.len
      have hzk : (bs.map (keyed k))[j]? = some (keyed k z) := by rw [List.getElem?_map, hz]; rfl
      obtain ⟨h1', h2⟩ := heldL_split _ j _ hzk
      have h3 := allL_len ((bs.map (keyed k)).take j)
      have HLN : As ((allL ((bs.map (keyed k)).take j)).length + (keyed k z).length ≤ 4294967296) := ⟨by omega⟩
      have HST := As.mk (allL_step _ j _ hzk)
      have HBS := As.mk (bsKey_any _ z k wr hvz2 (hRz.monoKey k))
      have HVZ := As.mk hvz2
      clear hvz hvz2 hz hcc hccc h1' h2 h3 hRz hzk
      go_wp2_with (go_at_call 45; refine HBS.out.mono ?_; rintro e w2 ⟨⟨i, fb, rfl, hf⟩, hE2⟩; have HF := As.mk hf; have HE2 := As.mk hE2; have hil := hf.le; clear hf hE2)
      go_loopg [12] z.length (fun g s12 wr' => ∃ (t : Nat), i ≤ t ∧ t ≤ z.length ∧ z.length - t ≤ g ∧ s12 = .int .i64 t ∧ As (∀ (s : Nat) (x : GI), i ≤ s → s < t → z[s]? = some x → x.key = k) ∧ w2 = wr')
      case atStart => exact ⟨i, by omega, by omega, by omega, rfl, ⟨fun s x h1 h2 => absurd h1 (by omega)⟩, rfl⟩
      case round =>
        obtain ⟨t, hit, htl, hg2, rfl, HM, rfl⟩ := hrel
        by_cases hlt2 : t < z.length
        · have hltz2 : (t : Int) < (z.length : Int) := by omega
          obtain ⟨x, hx⟩ : ∃ x, z[t]? = some x := ⟨_, List.getElem?_eq_getElem hlt2⟩
          obtain ⟨b1, o1, c1', A1, d1', hv, hb1, _, _, _, g0, _, _, _⟩ := RdT.itm (HVZ.out.ext HE2.out.below) hx
          injection hv with hA _ hccc
          subst hA
          have HX := As.mk hx
          clear hx hccc
          by_cases hkey : x.key = k
          · have HM2 : As (∀ (s : Nat) (y : GI), i ≤ s → s < t + 1 → z[s]? = some y → y.key = k) := ⟨fun s y h1 h2 h3 => by
              rcases Nat.lt_or_eq_of_le (Nat.le_of_lt_succ h2) with h4 | rfl
              · exact HM.out s y h1 h4 h3
              · rw [HX.out] at h3
                rw [← Option.some.inj h3]; exact hkey⟩
            obtain ⟨xk, xe, xr, xs⟩ := x
            simp only at *
            subst hkey
            go_wp2_with fail
            go_roundg (z.length - (t + 1))
            case measure => omega
            case rel => exact ⟨t + 1, by omega, by omega, by omega, by go_num, HM2, rfl⟩
          · have HNE : ∀ y, z[t]? = some y → y.key ≠ k := fun y hy => by
              rw [HX.out] at hy
              rw [← Option.some.inj hy]; exact hkey
            have hkl : (x.key.toList == k.toList) = false := beq_eq_false_iff_ne.2 fun h => hkey (by rw [ByteArray.toList_eq, ByteArray.toList_eq] at h; cases hx0 : x.key; cases hk0 : k; rw [hx0, hk0] at h; congr 1; exact Array.toList_inj.1 h)
            clear hkey
            obtain ⟨Ap, hsl, hrp⟩ := RdL.part Tryz.underlying70 HI.out HZ1.out (HVZ.out.ext HE2.out.below) i t hit htl .i64 .i64
            rw [keyed_part HRZ.out HF.out hit htl HM.out HNE] at hrp
            have HMM := As.mk (merged_any u7 _ _ _ AnyB w2 (HRD.out.ext HE2.out.below) hrp HLN.out)
            clear hrp
            go_wp2_with (go_at_call 48; refine HMM.out.mono ?_; rintro e w3 ⟨v3, rfl, hown, hB⟩; have HR3 := As.mk (hown.rd (ok := AnyB) fun _ _ => trivial); have HB3 := As.mk ((HW.out.trans (HE2.out.below.mono HW.out.size)).trans (hB.mono (Nat.le_trans HW.out.size HE2.out.below.size))); clear hown hB)
            go_roundg (bs.length - (j + 1))
            case measure => omega
            case rel => exact ⟨j + 1, by omega, by omega, by go_num, ⟨by rw [HST.out]; exact HR3.out⟩, HB3⟩
        · have hltz2 : ¬ (t : Int) < (z.length : Int) := by omega
          have HNE : ∀ y, z[t]? = some y → y.key ≠ k := fun y hy => by rw [List.getElem?_eq_none (by omega)] at hy; cases hy
          obtain ⟨Ap, hsl, hrp⟩ := RdL.part Tryz.underlying70 HI.out HZ1.out (HVZ.out.ext HE2.out.below) i t hit htl .i64 .i64
          rw [keyed_part HRZ.out HF.out hit htl HM.out HNE] at hrp
          have HMM := As.mk (merged_any u7 _ _ _ AnyB w2 (HRD.out.ext HE2.out.below) hrp HLN.out)
          clear hrp
          go_wp2_with (go_at_call 48; refine HMM.out.mono ?_; rintro e w3 ⟨v3, rfl, hown, hB⟩; have HR3 := As.mk (hown.rd (ok := AnyB) fun _ _ => trivial); have HB3 := As.mk ((HW.out.trans (HE2.out.below.mono HW.out.size)).trans (hB.mono (Nat.le_trans HW.out.size HE2.out.below.size))); clear hown hB)
          go_roundg (bs.length - (j + 1))
          case measure => omega
          case rel => exact ⟨j + 1, by omega, by omega, by go_num, ⟨by rw [HST.out]; exact HR3.out⟩, HB3⟩
    · have hltz : ¬ (j : Int) < (bs.length : Int) := by omega
      obtain rfl : j = bs.length := by omega
      rw [List.take_of_length_le (by simp)] at HRD
      have HE := As.mk (entries_any u7 _ wr HRD.out HS.out)
      go_wp2_with (go_at_call 49; refine HE.out.mono ?_; rintro e w2 ⟨v2, rfl, hB, xs, h1, h2, h3⟩; have HF := As.mk (And.intro hB (And.intro h1 (And.intro h2 h3))); clear hB h1 h2 h3)
      go_ret
      obtain ⟨hB, h1, h2, h3⟩ := HF.out
      exact ⟨_, rfl, HW.out.trans (hB.mono HW.out.size), xs, h1, h2, h3.low HW.out.size⟩
end Go.Proofs.YtmpndmjfdijamaaGreatDoor
