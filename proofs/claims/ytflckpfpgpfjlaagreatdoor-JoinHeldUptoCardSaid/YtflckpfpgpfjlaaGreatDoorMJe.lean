/- The walks of join's small functions: times, key, fits, zset.Weight. The walks of a join's sides: key and fits. The walk of slices.Equal over rows. -/
import Derived.Test.YtflckpfpgpfjlaaGreatDoorMJn
import Derived.Test.YtflckpfpgpfjlaaGreatDoorMJq
import Derived.Shelf.Bits.Mul64
import Derived.BigQuiet
set_option linter.unusedVariables false
set_option linter.unusedSimpArgs false
section
namespace Go.Proofs.YtflckpfpgpfjlaaGreatDoor
open Go.RowKit Go.Sort
set_option maxHeartbeats 2000000 in
theorem mul64_any (x y : Nat) (hx : x < 18446744073709551616) (hy : y < 18446744073709551616) (w : World) :
    Calls Tryz.prog 119 #[.int .u64 x, .int .u64 y] w fun e w' => e = .returned (.tuple #[.int .u64 ((x * y / 18446744073709551616 : Nat) : Int), .int .u64 ((x * y % 18446744073709551616 : Nat) : Int)]) ∧ w' = w := by
  obtain ⟨bd, bt, bw, hhi⟩ := Lib.mul64_hi x y hx hy
  have ba := Lib.half_mul_le (a := x / 4294967296) (b := y / 4294967296) (by omega) (by omega)
  have bb := Lib.half_mul_le (a := x / 4294967296) (b := y % 4294967296) (by omega) (by omega)
  have bc := Lib.half_mul_le (a := x % 4294967296) (b := y / 4294967296) (by omega) (by omega)
  have ba' : x / 4294967296 * (y / 4294967296) < 18446744073709551616 := by omega
  have bb' : x / 4294967296 * (y % 4294967296) < 18446744073709551616 := by omega
  have bc' : x % 4294967296 * (y / 4294967296) < 18446744073709551616 := by omega
  have bh1 : x / 4294967296 * (y / 4294967296) + (x / 4294967296 * (y % 4294967296) + x % 4294967296 * (y % 4294967296) / 4294967296) / 4294967296 < 18446744073709551616 := by omega
  have bh : x / 4294967296 * (y / 4294967296) + (x / 4294967296 * (y % 4294967296) + x % 4294967296 * (y % 4294967296) / 4294967296) / 4294967296 + ((x / 4294967296 * (y % 4294967296) + x % 4294967296 * (y % 4294967296) / 4294967296) % 4294967296 + x % 4294967296 * (y / 4294967296)) / 4294967296 < 18446744073709551616 := by omega
  go_enter Tryz.func119, Tryz.ntmps119
  go_wp2
  simp only [Mul64.maskN x hx, Mul64.maskN y hy, Mul64.divN, Mul64.mulN, Mul64.addN, Mul64.wrapN _ bd, Mul64.wrapN _ bb', Mul64.wrapN _ bt, Mul64.maskN _ bt, Mul64.wrapN _ bc', Mul64.wrapN _ bw, Mul64.wrapN _ ba', Mul64.wrapN _ bh1, Mul64.wrapN _ bh, Mul64.wrapM]
  rw [hhi]
  go_ret2
  exact ⟨rfl, rfl⟩
set_option maxHeartbeats 1000000 in
theorem jTimes_any (a b : Int) (ha : i64 a) (hb : i64 b) (w : World) : Calls Tryz.prog 67 #[.int .i64 a, .int .i64 b] w fun e w' => e = .returned (.tuple #[.int .i64 (timesV a b), .bool (timesB a b)]) ∧ w' = w := by
  unfold i64 at ha hb
  by_cases h : a < 0 ∨ b < 0
  · have hv : timesV a b = 0 := if_pos h
    have hB : timesB a b = true := by
      unfold timesB
      rcases h with h | h <;> simp [h]
    rw [hv, hB]
    clear hv hB
    by_cases h1 : a < 0
    · go_enter Tryz.func67, Tryz.ntmps67
      go_wp2
      go_ret2
      exact ⟨rfl, rfl⟩
    · have h2 : b < 0 := by omega
      go_enter Tryz.func67, Tryz.ntmps67
      go_wp2
      go_ret2
      exact ⟨rfl, rfl⟩
  · obtain ⟨x, rfl⟩ := Int.eq_ofNat_of_zero_le (by omega : 0 ≤ a)
    obtain ⟨y, rfl⟩ := Int.eq_ofNat_of_zero_le (by omega : 0 ≤ b)
    have h1 : ¬ ((x : Int) < 0) := by omega
    have h2 : ¬ ((y : Int) < 0) := by omega
    have hc := fun W => mul64_any x y (by omega) (by omega) W
    have e1 : IntKind.u64.wrap (x : Int) = x := Mul64.wrapN _ (by omega)
    have e2 : IntKind.u64.wrap (y : Int) = y := Mul64.wrapN _ (by omega)
    have hv : timesV (x : Int) y = wrap64 ((x * y % 18446744073709551616 : Nat) : Int) := by
      unfold timesV wrap64
      rw [if_neg h]
      have : ((x : Int) * y) = ((x * y : Nat) : Int) := by simp
      rw [this]
      omega
    have hB : timesB (x : Int) y = (decide (((x * y / 18446744073709551616 : Nat) : Int) = 0) && decide (((x * y % 18446744073709551616 : Nat) : Int) ≤ 1099511627776)) := by
      unfold timesB
      rw [decide_eq_false h1, decide_eq_false h2, Bool.false_or, Bool.false_or]
      have : ((x : Int) * y) = ((x * y : Nat) : Int) := by simp
      rw [this, ← Bool.decide_and, decide_eq_decide]
      generalize x * y = z
      omega
    rw [hv, hB]
    clear hv hB h
    generalize hz : x * y = z at *
    generalize ((z % 18446744073709551616 : Nat) : Int) = lo at *
    by_cases h3 : ((z / 18446744073709551616 : Nat) : Int) = 0
    · rw [decide_eq_true h3, Bool.true_and]
      rw [h3] at hc
      go_enter Tryz.func67, Tryz.ntmps67
      go_wp2_with (go_at_call 119; refine (hc _).mono ?_; rintro e w1 ⟨rfl, rfl⟩)
      go_ret2
      exact ⟨rfl, rfl⟩
    · rw [decide_eq_false h3, Bool.false_and]
      generalize ((z / 18446744073709551616 : Nat) : Int) = hi at *
      go_enter Tryz.func67, Tryz.ntmps67
      go_wp2_with (go_at_call 119; refine (hc _).mono ?_; rintro e w1 ⟨rfl, rfl⟩)
      go_ret2
      exact ⟨rfl, rfl⟩
def Mono0E (f : GE → Int) (z : List GE) : Prop := ∀ (a b : Nat) (x y : GE), a ≤ b → z[a]? = some x → z[b]? = some y → f y < 0 → f x < 0
structure FoundE (f : GE → Int) (z : List GE) (i : Nat) (b : Bool) : Prop where
  le : i ≤ z.length
  below : ∀ (t : Nat) (x : GE), t < i → z[t]? = some x → f x < 0
  above : ∀ (t : Nat) (x : GE), i ≤ t → z[t]? = some x → 0 ≤ f x
  met : b = match z[i]? with
    | none => false
    | some x => decide (f x = 0)
def SearchPostE (f : GE → Int) (z : List GE) (w : World) (e : Ending) (w' : World) : Prop := (∃ (i : Nat) (b : Bool), e = .returned (.tuple #[.int .i64 i, .bool b]) ∧ FoundE f z i b) ∧ Ext w w'
theorem zWeight1_any (A B : Option Addr) (c d : Nat) (a : Int) (r s : List GV) (w : World) (hr : RdV w AnyB (.slice A r.length c) r) (hs : RdV w AnyB (.slice B s.length d) s) :
    Calls Tryz.prog 76 #[.agg #[.slice A r.length c, .int .i64 a], .slice B s.length d] w fun e w' => e = .returned (.int .i64 (rcmp r s)) ∧ Ext w w' := by
  have h1 := fun W (hE : Ext w W) => rCompare_any _ _ r s W (hr.ext hE.below) (hs.ext hE.below)
  clear hr hs
  go_enter Tryz.func76, Tryz.ntmps76
  go_wp2_with fail
  refine (h1 _ (by repeat (first | (with_reducible exact Ext.refl _) | (with_reducible assumption) | (with_reducible apply Ext.alloc) | (with_reducible apply Ext.drewN) | (with_reducible apply Ext.drew) | (with_reducible apply Ext.grow) | (with_reducible refine Ext.trans ?_ (by with_reducible assumption))))).mono ?_
  rintro e w1 ⟨rfl, hE⟩
  go_wp2_with fail
  go_ret
  exact ⟨rfl, (by repeat (first | (with_reducible exact Ext.refl _) | (with_reducible assumption) | (with_reducible apply Ext.alloc) | (with_reducible apply Ext.drewN) | (with_reducible apply Ext.drew) | (with_reducible apply Ext.grow) | (with_reducible refine Ext.trans ?_ (by with_reducible assumption))))⟩
set_option maxHeartbeats 2000000 in
theorem bsEntry_any (v : Value) (z : List GE) (A0 : Option Addr) (d0 : Nat) (r : List GV) (w : World) (hz : RdZ w AnyB v z) (hr : RdV w AnyB (.slice A0 r.length d0) r) (hm : Mono0E (fun x => rcmp x.row r) z) :
    Calls Tryz.prog 75 #[v, .slice A0 r.length d0, .func (.func 76) #[] #[]] w (SearchPostE (fun x => rcmp x.row r) z w) := by
  have mixed := mixed
  obtain ⟨A, c, rfl, hc⟩ := hz.shape
  have hl := hz.len
  have HR := As.mk hz
  have HM := As.mk hm
  have HV := As.mk hr
  clear hz hm hr
  go_enter Tryz.func75, Tryz.ntmps75
  go_wp2
  go_loopg [9, 10, 11] z.length (fun g s9 s10 _ wr => ∃ lo hi : Nat, s9 = .int .i64 lo ∧ s10 = .int .i64 hi ∧ lo ≤ hi ∧ hi ≤ z.length ∧ hi - lo ≤ g ∧ As (Ext w wr) ∧
    As (∀ (t : Nat) (x : GE), t < lo → z[t]? = some x → rcmp x.row r < 0) ∧ As (∀ (t : Nat) (x : GE), hi ≤ t → z[t]? = some x → 0 ≤ rcmp x.row r))
  case atStart => exact ⟨0, z.length, rfl, rfl, Nat.zero_le _, Nat.le_refl _, by omega, ⟨Ext.refl _⟩, ⟨fun t x ht => absurd ht (Nat.not_lt_zero _)⟩, ⟨fun t x h1 h2 => absurd (List.getElem?_eq_some_iff.1 h2).1 (by omega)⟩⟩
  case round =>
    obtain ⟨lo, hi, rfl, rfl, hlh, hin, hg, HE, HL, HH⟩ := hrel
    have hE := HE.out
    by_cases hlt : lo < hi
    · have hltz : (lo : Int) < (hi : Int) := by omega
      obtain ⟨x, hx⟩ : ∃ x, z[(lo + hi) / 2]? = some x := ⟨_, List.getElem?_eq_getElem (by omega)⟩
      obtain ⟨b, o, c', A1, d1, hv, hb, _, hrow, c0, c1⟩ := RdZ.ent HR.out hx
      injection hv with hA _ hcc
      subst hA
      have p0 : wr.cell? ⟨b, o + (lo + hi) / 2 * 2, none⟩ = some (.slice A1 x.row.length d1) := Ext.cell hE c0
      have p1 : wr.cell? ⟨b, o + (lo + hi) / 2 * 2 + 1, none⟩ = some (.int .i64 x.w) := Ext.cell hE c1
      have f1 := fun W (hE2 : Ext w W) => zWeight1_any A1 A0 d1 d0 x.w x.row r W (hrow.ext hE2.below) (HV.out.ext hE2.below)
      have HX := As.mk hx
      clear hx hcc c0 c1 hrow
      by_cases hq : rcmp x.row r < 0
      · have HQ := As.mk hq
        generalize rcmp x.row r = q at f1 hq
        go_wp2_with (go_at_call 76; refine (f1 _ (by repeat (first | (with_reducible exact Ext.refl _) | (with_reducible assumption) | (with_reducible apply Ext.alloc) | (with_reducible apply Ext.drewN) | (with_reducible apply Ext.drew) | (with_reducible apply Ext.grow) | (with_reducible refine Ext.trans ?_ (by with_reducible assumption))))).mono ?_; rintro r w1 ⟨rfl, hE1⟩)
        go_roundg (hi - ((lo + hi) / 2 + 1))
        case measure => omega
        case rel =>
          have hn : As (∀ (t : Nat) (y : GE), t < (lo + hi) / 2 + 1 → z[t]? = some y → rcmp y.row r < 0) := ⟨fun t y ht hy => HM.out t ((lo + hi) / 2) y x (by omega) hy HX.out HQ.out⟩
          exact ⟨(lo + hi) / 2 + 1, hi, by go_num, rfl, by omega, hin, by omega, ⟨(by repeat (first | (with_reducible exact Ext.refl _) | (with_reducible assumption) | (with_reducible apply Ext.alloc) | (with_reducible apply Ext.drewN) | (with_reducible apply Ext.drew) | (with_reducible apply Ext.grow) | (with_reducible refine Ext.trans ?_ (by with_reducible assumption))))⟩, hn, HH⟩
      · have HQ := As.mk hq
        generalize rcmp x.row r = q at f1 hq
        go_wp2_with (go_at_call 76; refine (f1 _ (by repeat (first | (with_reducible exact Ext.refl _) | (with_reducible assumption) | (with_reducible apply Ext.alloc) | (with_reducible apply Ext.drewN) | (with_reducible apply Ext.drew) | (with_reducible apply Ext.grow) | (with_reducible refine Ext.trans ?_ (by with_reducible assumption))))).mono ?_; rintro r w1 ⟨rfl, hE1⟩)
        go_roundg ((lo + hi) / 2 - lo)
        case measure => omega
        case rel =>
          have hn : As (∀ (t : Nat) (y : GE), (lo + hi) / 2 ≤ t → z[t]? = some y → 0 ≤ rcmp y.row r) := ⟨fun t y ht hy => Int.not_lt.1 fun h => absurd (HM.out ((lo + hi) / 2) t x y ht HX.out hy h) (Int.not_lt.2 HQ.out)⟩
          exact ⟨lo, (lo + hi) / 2, rfl, by go_num, by omega, by omega, by omega, ⟨(by repeat (first | (with_reducible exact Ext.refl _) | (with_reducible assumption) | (with_reducible apply Ext.alloc) | (with_reducible apply Ext.drewN) | (with_reducible apply Ext.drew) | (with_reducible apply Ext.grow) | (with_reducible refine Ext.trans ?_ (by with_reducible assumption))))⟩, HL, hn⟩
    · obtain rfl : hi = lo := by omega
      by_cases hn : hi < z.length
      · have hnz : (hi : Int) < (z.length : Int) := by omega
        obtain ⟨x, hx⟩ : ∃ x, z[hi]? = some x := ⟨_, List.getElem?_eq_getElem hn⟩
        obtain ⟨b, o, c', A1, d1, hv, hb, _, hrow, c0, c1⟩ := RdZ.ent HR.out hx
        injection hv with hA _ hcc
        subst hA
        have p0 : wr.cell? ⟨b, o + hi * 2, none⟩ = some (.slice A1 x.row.length d1) := Ext.cell hE c0
        have p1 : wr.cell? ⟨b, o + hi * 2 + 1, none⟩ = some (.int .i64 x.w) := Ext.cell hE c1
        have f1 := fun W (hE2 : Ext w W) => zWeight1_any A1 A0 d1 d0 x.w x.row r W (hrow.ext hE2.below) (HV.out.ext hE2.below)
        have HF : As (FoundE (fun x => rcmp x.row r) z hi (rcmp x.row r == 0)) := ⟨⟨by omega, HL.out, HH.out, by rw [hx]; simp [Bool.beq_eq_decide_eq]⟩⟩
        clear hx hcc c0 c1 hrow
        generalize hq : rcmp x.row r = q at f1 HF
        clear hq
        go_wp2_with (go_at_call 76; refine (f1 _ (by repeat (first | (with_reducible exact Ext.refl _) | (with_reducible assumption) | (with_reducible apply Ext.alloc) | (with_reducible apply Ext.drewN) | (with_reducible apply Ext.drew) | (with_reducible apply Ext.grow) | (with_reducible refine Ext.trans ?_ (by with_reducible assumption))))).mono ?_; rintro r w1 ⟨rfl, hE1⟩)
        go_ret2
        exact ⟨⟨_, _, rfl, HF.out⟩, (by repeat (first | (with_reducible exact Ext.refl _) | (with_reducible assumption) | (with_reducible apply Ext.alloc) | (with_reducible apply Ext.drewN) | (with_reducible apply Ext.drew) | (with_reducible apply Ext.grow) | (with_reducible refine Ext.trans ?_ (by with_reducible assumption))))⟩
      · have hnz : ¬ (hi : Int) < (z.length : Int) := by omega
        have hnb : decide ((hi : Int) < (z.length : Int)) = false := by simpa using hnz
        have HF : As (FoundE (fun x => rcmp x.row r) z hi false) := ⟨⟨by omega, HL.out, HH.out, by rw [List.getElem?_eq_none (by omega)]⟩⟩
        go_wp2
        go_ret2
        exact ⟨⟨_, _, rfl, HF.out⟩, (by repeat (first | (with_reducible exact Ext.refl _) | (with_reducible assumption) | (with_reducible apply Ext.alloc) | (with_reducible apply Ext.drewN) | (with_reducible apply Ext.drew) | (with_reducible apply Ext.grow) | (with_reducible refine Ext.trans ?_ (by with_reducible assumption))))⟩
/-- zset.Weight's answer. -/
def zWt (z : List GE) (r : List GV) : Int := if zsound z = true ∧ rsound r = true then zw z r else 0
theorem row_lex {a b : List GV} (ha : RowOk a) (hb : RowOk b) (h : rlex a b = 0) : a = b := rlex_eq ha.2 hb.2 (rsound_at ha.1).2 (rsound_at hb.1).2 h
section
variable {z : List GE} {r : List GV}
theorem rise_at (hz : ZOk z) {a b : Nat} {x y : GE} (h : a < b) (hx : z[a]? = some x) (hy : z[b]? = some y) : rlex x.row y.row < 0 := by
  obtain ⟨ha, rfl⟩ := List.getElem?_eq_some_iff.1 hx
  obtain ⟨hb, rfl⟩ := List.getElem?_eq_some_iff.1 hy
  exact List.pairwise_iff_getElem.1 hz.rise a b ha hb h
theorem mono_row (hz : ZOk z) (hr : RowOk r) : Mono0E (fun x => rcmp x.row r) z := fun a b x y hab hx hy h => by
  have hxr := hz.row x (List.mem_of_getElem? hx)
  have hyr := hz.row y (List.mem_of_getElem? hy)
  show rcmp x.row r < 0
  replace h : rcmp y.row r < 0 := h
  rw [rcmp_lex hxr.1 hr.1]
  rw [rcmp_lex hyr.1 hr.1] at h
  by_cases e : a = b
  · subst e
    rw [hx] at hy
    injection hy with hy
    rw [hy]
    exact h
  · exact rlex_cmp.lt_of_lt_of_le (rise_at hz (by omega) hx hy) (Int.le_of_lt h)
theorem FoundE.no {i : Nat} (hz : ZOk z) (hr : RowOk r) (h : FoundE (fun x => rcmp x.row r) z i false) : zw z r = 0 := by
  refine zw_none fun x hx e => ?_
  obtain ⟨t, ht⟩ := List.mem_iff_getElem?.1 hx
  have h0 : rcmp x.row r = 0 := by
    rw [rcmp_lex (hz.row x hx).1 hr.1, e]
    exact rlex_cmp.refl r
  by_cases hti : t < i
  · have : rcmp x.row r < 0 := h.below t x hti ht
    omega
  · have hl := (List.getElem?_eq_some_iff.1 ht).1
    obtain ⟨y, hy⟩ : ∃ y, z[i]? = some y := ⟨_, List.getElem?_eq_getElem (by omega)⟩
    have hm := h.met
    rw [hy] at hm
    have hne : ¬ rcmp y.row r = 0 := by simpa using hm
    have hge : 0 ≤ rcmp y.row r := h.above i y (Nat.le_refl _) hy
    by_cases e2 : t = i
    · subst e2
      rw [hy] at ht
      injection ht with ht
      rw [ht] at hne
      exact hne h0
    · have h1 := rise_at hz (by omega) hy ht
      rw [rcmp_lex (hz.row y (List.mem_of_getElem? hy)).1 hr.1] at hge
      rw [e] at h1
      omega
theorem FoundE.yes {i : Nat} (hz : ZOk z) (hr : RowOk r) (h : FoundE (fun x => rcmp x.row r) z i true) : ∃ x, z[i]? = some x ∧ zw z r = x.w := by
  have hm := h.met
  cases hx : z[i]? with
  | none => rw [hx] at hm; cases hm
  | some x =>
    rw [hx] at hm
    have h0 : rcmp x.row r = 0 := by simpa using hm
    have hmx := List.mem_of_getElem? hx
    rw [rcmp_lex (hz.row x hmx).1 hr.1] at h0
    refine ⟨x, rfl, ?_⟩
    rw [← row_lex (hz.row x hmx) hr h0]
    exact hz.at hmx
end
set_option maxRecDepth 100000 in
set_option maxHeartbeats 2000000 in
theorem zWeight_any (v : Value) (z : List GE) (A0 : Option Addr) (d0 : Nat) (r : List GV) (w : World) (hz : RdZ w AnyB v z) (hr : RdV w AnyB (.slice A0 r.length d0) r) :
    Calls Tryz.prog 35 #[v, .slice A0 r.length d0] w fun e w' => e = .returned (.int .i64 (zWt z r)) ∧ Ext w w' := by
  have mixed := mixed
  have h1 := fun W (hE : Ext w W) => zSound_any v z W (hz.ext hE.below)
  have h2 := fun W (hE : Ext w W) => rSound_any _ r W (hr.ext hE.below)
  obtain ⟨A, c, rfl, hc⟩ := hz.shape
  unfold zWt
  cases hs : zsound z with
  | false =>
    rw [hs] at h1
    rw [if_neg (fun h => by cases h.1)]
    clear hz hr hs
    go_enter Tryz.func35, Tryz.ntmps35
    go_wp2_with (go_at_call 37; refine (h1 _ (Ext.refl _)).mono ?_; rintro e w1 ⟨rfl, hE1⟩)
    go_ret
    exact ⟨rfl, (by repeat (first | (with_reducible exact Ext.refl _) | (with_reducible assumption) | (with_reducible apply Ext.alloc) | (with_reducible apply Ext.drewN) | (with_reducible apply Ext.drew) | (with_reducible apply Ext.grow) | (with_reducible refine Ext.trans ?_ (by with_reducible assumption))))⟩
  | true =>
    rw [hs] at h1
    cases hq : rsound r with
    | false =>
      rw [hq] at h2
      rw [if_neg (fun h => by cases h.2)]
      clear hz hr hs hq
      go_enter Tryz.func35, Tryz.ntmps35
      go_wp2_with (first | (go_at_call 37; refine (h1 _ (Ext.refl _)).mono ?_; rintro e w1 ⟨rfl, hE1⟩) | (go_at_call 54; refine (h2 _ hE1).mono ?_; rintro e w2 ⟨rfl, hE2⟩))
      go_ret
      exact ⟨rfl, (by repeat (first | (with_reducible exact Ext.refl _) | (with_reducible assumption) | (with_reducible apply Ext.alloc) | (with_reducible apply Ext.drewN) | (with_reducible apply Ext.drew) | (with_reducible apply Ext.grow) | (with_reducible refine Ext.trans ?_ (by with_reducible assumption))))⟩
    | true =>
      rw [hq] at h2
      rw [if_pos ⟨rfl, rfl⟩]
      have hok : ZOk z := (zsound_ok hs fun x hx y hy => by
        obtain ⟨j, hj⟩ := List.mem_iff_getElem?.1 hx
        obtain ⟨_, _, _, _, _, _, _, _, hrow, _⟩ := hz.ent hj
        exact hrow.all y hy).1
      have hro : RowOk r := ⟨hq, hr.all⟩
      have h3 := fun W (hE : Ext w W) => bsEntry_any _ z A0 d0 r W (hz.ext hE.below) (hr.ext hE.below) (mono_row hok hro)
      have hl := hz.len
      have HZ := As.mk hz
      have HO := As.mk hok
      have HRO := As.mk hro
      obtain ⟨wv, hwv⟩ : ∃ wv, wv = zw z r := ⟨_, rfl⟩
      rw [← hwv]
      have HWV := As.mk hwv
      clear hwv
      clear hz hr hs hq hok hro
      go_enter Tryz.func35, Tryz.ntmps35
      go_wp2_with (first | (go_at_call 37; refine (h1 _ (Ext.refl _)).mono ?_; rintro e w1 ⟨rfl, hE1⟩) | (go_at_call 54; refine (h2 _ hE1).mono ?_; rintro e w2 ⟨rfl, hE2⟩; have hE2 := hE1.trans hE2))
      refine (h3 _ hE2).mono ?_
      rintro e w3 ⟨⟨i, b, rfl, hf⟩, hE3⟩
      have hE3 := hE2.trans hE3
      cases b with
      | false =>
        have e := HWV.out.trans (hf.no HO.out HRO.out)
        clear HWV hf
        subst e
        go_wp2
        go_ret
        exact ⟨rfl, (by repeat (first | (with_reducible exact Ext.refl _) | (with_reducible assumption) | (with_reducible apply Ext.alloc) | (with_reducible apply Ext.drewN) | (with_reducible apply Ext.drew) | (with_reducible apply Ext.grow) | (with_reducible refine Ext.trans ?_ (by with_reducible assumption))))⟩
      | true =>
        obtain ⟨x, hx, hw⟩ := hf.yes HO.out HRO.out
        obtain ⟨bz, oz, cz, A1, d1, hv, _, _, _, c0, c1⟩ := HZ.out.ent hx
        injection hv with hA _ _
        subst hA
        have p1 := hE3.cell c1
        have hil : i < z.length := (List.getElem?_eq_some_iff.1 hx).1
        have hiz : (i : Int) < (z.length : Int) := by omega
        have hi0 : (0 : Int) ≤ (i : Int) := by omega
        have e := HWV.out.trans hw
        clear HWV hf hx hw c0 c1
        subst e
        go_wp2
        go_ret
        exact ⟨rfl, (by repeat (first | (with_reducible exact Ext.refl _) | (with_reducible assumption) | (with_reducible apply Ext.alloc) | (with_reducible apply Ext.drewN) | (with_reducible apply Ext.drew) | (with_reducible apply Ext.grow) | (with_reducible refine Ext.trans ?_ (by with_reducible assumption))))⟩
end Go.Proofs.YtflckpfpgpfjlaaGreatDoor
end
section
namespace Go.Proofs.YtflckpfpgpfjlaaGreatDoor
open Go.RowKit Go.Sort
/-- What key answers. -/
def KeyPost (w : World) (k : List GV) (e : Ending) (w' : World) : Prop := ∃ A d, e = .returned (.slice A k.length d) ∧ RdV w' AnyB (.slice A k.length d) k ∧ Below w.heap.size w w'
theorem KeyPost.of {w w' : World} {u : Value} {k : List GV} (h : RdV w' AnyB u k) (hb : Below w.heap.size w w') : KeyPost w k (.returned u) w' := by
  obtain ⟨A, d, rfl, _⟩ := h.shape
  exact ⟨A, d, rfl, h, hb⟩
set_option maxHeartbeats 400000 in
theorem jKey_any (lv v : Value) (wl : Int) (p : Option Addr) (cols : List Int) (r : List GV) (w : World) (hc : RdI w AnyB lv cols) (hr : RdV w AnyB v r) :
    Calls Tryz.prog 32 #[.agg #[lv, .int .i64 wl, .pointer p], v] w (KeyPost w (keyOf cols r)) := by
  obtain ⟨B, d, rfl, _⟩ := hc.shape
  obtain ⟨A, c, rfl, _⟩ := hr.shape
  have h1 := fun W (hE : Ext w W) => pick_any _ _ r cols W (hr.ext hE.below) (hc.ext hE.below)
  clear hc hr
  have HB0 : As (Below w.heap.size w (w.alloc (.cells #[.slice B cols.length d, .int .i64 wl, .pointer p] 72))) := ⟨(Below.refl _ _).alloc (Nat.le_refl _) _⟩
  unfold keyOf
  cases hp : pick r cols with
  | none =>
    rw [hp] at h1
    have h0 : RdV w AnyB (.slice none 0 0) (Option.getD (none : Option (List GV)) []) := RdL.nil _ _ _ _
    have HK := As.mk (fun W (hB : Below w.heap.size w W) => KeyPost.of (h0.ext hB) hB)
    clear h0 hp
    go_enter Tryz.func32, Tryz.ntmps32
    go_wp2_with fail
    refine (h1 _ (by repeat (first | (with_reducible exact Ext.refl _) | (with_reducible assumption) | (with_reducible apply Ext.alloc) | (with_reducible apply Ext.drewN) | (with_reducible apply Ext.drew) | (with_reducible apply Ext.grow) | (with_reducible refine Ext.trans ?_ (by with_reducible assumption))))).mono ?_
    rintro e w1 ⟨hB, rfl⟩
    have hB1 := HB0.out.trans (hB.mono HB0.out.size)
    clear hB
    go_wp2
    go_ret
    exact HK.out _ hB1
  | some k =>
    rw [hp] at h1
    clear hp
    go_enter Tryz.func32, Tryz.ntmps32
    go_wp2_with fail
    refine (h1 _ (by repeat (first | (with_reducible exact Ext.refl _) | (with_reducible assumption) | (with_reducible apply Ext.alloc) | (with_reducible apply Ext.drewN) | (with_reducible apply Ext.drew) | (with_reducible apply Ext.grow) | (with_reducible refine Ext.trans ?_ (by with_reducible assumption))))).mono ?_
    rintro e w1 ⟨hB, u, rfl, hu⟩
    have hB1 := HB0.out.trans (hB.mono HB0.out.size)
    have hu' : RdV w1 AnyB u (Option.getD (some k) []) := hu.mv (Stays.any _ _)
    have HK := As.mk (KeyPost.of hu' hB1)
    clear hB hu hu' hB1
    go_wp2
    go_ret
    exact HK.out
/-- Whether an entry's row has another width. -/
def wideZ (z : List GE) (width : Int) : Bool := z.any fun x => !decide ((x.row.length : Int) = width)
def IdxPost (b : Bool) (w : World) (e : Ending) (w' : World) : Prop := (∃ i : Int, e = .returned (.int .i64 i) ∧ decide (0 ≤ i) = b) ∧ Ext w w'
theorem IdxPost.hit {z : List GE} {width : Int} {w w' : World} {k : Nat} {x : GE} (hx : z[k]? = some x) (h : ¬ (x.row.length : Int) = width) (hE : Ext w w') : IdxPost (wideZ z width) w (.returned (.int .i64 k)) w' :=
  ⟨⟨_, rfl, by
    rw [decide_eq_true (Int.natCast_nonneg k), eq_comm]
    exact List.any_eq_true.2 ⟨x, List.mem_of_getElem? hx, by simp [h]⟩⟩, hE⟩
theorem IdxPost.miss {z : List GE} {width : Int} {w w' : World} (h : ∀ (i : Nat) (x : GE), z[i]? = some x → (x.row.length : Int) = width) (hE : Ext w w') : IdxPost (wideZ z width) w (.returned (.int .i64 (-1))) w' :=
  ⟨⟨_, rfl, by
    have : wideZ z width = false := List.any_eq_false.2 fun x hx => by
      obtain ⟨i, hi⟩ := List.mem_iff_getElem?.1 hx
      simp [h i x hi]
    rw [this]
    rfl⟩, hE⟩
theorem jFits1_any (A : Option Addr) (n c : Nat) (a width : Int) (b : Nat) (w : World) (hb : w.cell? ⟨b, 1, none⟩ = some (.int .i64 width)) :
    Calls Tryz.prog 62 #[.agg #[.slice A n c, .int .i64 a], .pointer (some ⟨b, 0, none⟩)] w fun e w' => e = .returned (.bool (!decide ((n : Int) = width))) ∧ Ext w w' := by
  have hb' := (Ext.alloc (Ext.refl w) (.cells #[.slice A n c, .int .i64 a] 66)).cell hb
  by_cases h : (n : Int) = width
  · rw [decide_eq_true h]
    subst h
    go_enter Tryz.func62, Tryz.ntmps62
    go_wp2
    go_ret
    exact ⟨rfl, (by repeat (first | (with_reducible exact Ext.refl _) | (with_reducible assumption) | (with_reducible apply Ext.alloc) | (with_reducible apply Ext.drewN) | (with_reducible apply Ext.drew) | (with_reducible apply Ext.grow) | (with_reducible refine Ext.trans ?_ (by with_reducible assumption))))⟩
  · rw [decide_eq_false h]
    go_enter Tryz.func62, Tryz.ntmps62
    go_wp2
    go_ret
    exact ⟨ret_bool (by simp [h]), (by repeat (first | (with_reducible exact Ext.refl _) | (with_reducible assumption) | (with_reducible apply Ext.alloc) | (with_reducible apply Ext.drewN) | (with_reducible apply Ext.drew) | (with_reducible apply Ext.grow) | (with_reducible refine Ext.trans ?_ (by with_reducible assumption))))⟩
set_option maxHeartbeats 400000 in
theorem idxZ_any (v : Value) (z : List GE) (width : Int) (bw : Nat) (w : World) (hz : RdZ w AnyB v z) (hbw : w.cell? ⟨bw, 1, none⟩ = some (.int .i64 width)) :
    Calls Tryz.prog 117 #[v, .func (.func 62) #[] #[.pointer (some ⟨bw, 0, none⟩)]] w (IdxPost (wideZ z width) w) := by
  obtain ⟨A, c, rfl, hc⟩ := hz.shape
  have hl := hz.len
  have HR := As.mk hz
  clear hz
  go_enter Tryz.func117, Tryz.ntmps117
  go_wp2
  go_loopg [5, 8] z.length (fun g _ s8 wr => ∃ k : Nat, k ≤ z.length ∧ z.length - k ≤ g ∧ s8 = .int .i64 k ∧ As (Ext w wr) ∧ As (∀ (i : Nat) (y : GE), i < k → z[i]? = some y → (y.row.length : Int) = width))
  case atStart => exact ⟨0, Nat.zero_le _, by omega, rfl, ⟨Ext.refl _⟩, ⟨fun i y hi => absurd hi (Nat.not_lt_zero _)⟩⟩
  case round =>
    obtain ⟨k, hk, hg, rfl, HE, HA⟩ := hrel
    by_cases hlt : k < z.length
    · have hltz : (k : Int) < (z.length : Int) := by omega
      obtain ⟨x, hx⟩ : ∃ x, z[k]? = some x := ⟨_, List.getElem?_eq_getElem hlt⟩
      obtain ⟨b, o, c', A1, d1, hv, hb, _, hrow, c0, c1⟩ := RdZ.ent HR.out hx
      injection hv with hA _ hcc
      subst hA
      have s1 := fun W (hE : Ext w W) => jFits1_any A1 x.row.length d1 x.w width bw W (hE.cell hbw)
      replace c0 := HE.out.cell c0; replace c1 := HE.out.cell c1
      have hE := HE.out
      have HX := As.mk hx
      clear hx hcc hrow
      by_cases hs : (x.row.length : Int) = width
      · have HS := As.mk hs
        rw [decide_eq_true hs] at s1
        clear hs
        go_wp2_with (go_at_call 62; refine (s1 _ (by repeat (first | (with_reducible exact Ext.refl _) | (with_reducible assumption) | (with_reducible apply Ext.alloc) | (with_reducible apply Ext.drewN) | (with_reducible apply Ext.drew) | (with_reducible apply Ext.grow) | (with_reducible refine Ext.trans ?_ (by with_reducible assumption))))).mono ?_; rintro e w1 ⟨rfl, hE1⟩)
        go_roundg (z.length - (k + 1))
        case measure => omega
        case rel =>
          refine ⟨k + 1, by omega, by omega, by go_num, ⟨(by repeat (first | (with_reducible exact Ext.refl _) | (with_reducible assumption) | (with_reducible apply Ext.alloc) | (with_reducible apply Ext.drewN) | (with_reducible apply Ext.drew) | (with_reducible apply Ext.grow) | (with_reducible refine Ext.trans ?_ (by with_reducible assumption))))⟩, ⟨fun i y hi hy => ?_⟩⟩
          by_cases e : i = k
          · subst e; rw [HX.out] at hy; injection hy with hy; subst hy; exact HS.out
          · exact HA.out i y (by omega) hy
      · have HS := As.mk hs
        rw [decide_eq_false hs] at s1
        clear hs
        go_wp2_with (go_at_call 62; refine (s1 _ (by repeat (first | (with_reducible exact Ext.refl _) | (with_reducible assumption) | (with_reducible apply Ext.alloc) | (with_reducible apply Ext.drewN) | (with_reducible apply Ext.drew) | (with_reducible apply Ext.grow) | (with_reducible refine Ext.trans ?_ (by with_reducible assumption))))).mono ?_; rintro e w1 ⟨rfl, hE1⟩)
        go_ret
        exact IdxPost.hit HX.out HS.out (by repeat (first | (with_reducible exact Ext.refl _) | (with_reducible assumption) | (with_reducible apply Ext.alloc) | (with_reducible apply Ext.drewN) | (with_reducible apply Ext.drew) | (with_reducible apply Ext.grow) | (with_reducible refine Ext.trans ?_ (by with_reducible assumption))))
    · have hltz : ¬ (k : Int) < (z.length : Int) := by omega
      go_wp2
      go_ret
      exact IdxPost.miss (fun i y hy => HA.out i y (by have := (List.getElem?_eq_some_iff.1 hy).1; omega) hy) HE.out
theorem contZ_any (v : Value) (z : List GE) (width : Int) (bw : Nat) (w : World) (hz : RdZ w AnyB v z) (hbw : w.cell? ⟨bw, 1, none⟩ = some (.int .i64 width)) :
    Calls Tryz.prog 61 #[v, .func (.func 62) #[] #[.pointer (some ⟨bw, 0, none⟩)]] w fun e w' => e = .returned (.bool (wideZ z width)) ∧ Ext w w' := by
  have h1 := idxZ_any v z width bw w hz hbw
  clear hz
  generalize wideZ z width = b at *
  go_enter Tryz.func61, Tryz.ntmps61
  go_wp2_with (go_at_call 117; refine h1.mono ?_; rintro e w1 ⟨⟨i, rfl, hi⟩, hE⟩)
  go_ret
  exact ⟨ret_bool (by rw [← hi]), hE⟩
/-- Whether a change fits a side of this width. -/
def fitsZ (width : Int) (z : List GE) : Bool := zsound z && !wideZ z width
set_option maxHeartbeats 1000000 in
theorem jFits_any (B : Option Addr) (n d : Nat) (v : Value) (wl : Int) (p : Option Addr) (z : List GE) (w : World) (hz : RdZ w AnyB v z) :
    Calls Tryz.prog 29 #[.agg #[.slice B n d, .int .i64 wl, .pointer p], v] w fun e w' => e = .returned (.bool (fitsZ wl z)) ∧ Ext w w' := by
  have hE0 : Ext w (w.alloc (.cells #[.slice B n d, .int .i64 wl, .pointer p] 72)) := Ext.alloc (Ext.refl w) _
  have h1 := fun W (hE : Ext w W) => zSound_any v z W (hz.ext hE.below)
  have h2 := fun W (hE : Ext (w.alloc (.cells #[.slice B n d, .int .i64 wl, .pointer p] 72)) W) => contZ_any v z wl w.heap.size W (hz.ext (hE0.trans hE).below) (hE.cell (by simp))
  obtain ⟨A, c, rfl, _⟩ := hz.shape
  unfold fitsZ
  clear hz
  generalize wideZ z wl = b at *
  cases hs : zsound z with
  | false =>
    rw [hs] at h1
    clear hs
    go_enter Tryz.func29, Tryz.ntmps29
    go_wp2_with (first | (go_at_call 37; refine (h1 _ hE0).mono ?_; rintro e w1 ⟨rfl, hE1⟩))
    go_ret
    exact ⟨rfl, (by repeat (first | (with_reducible exact Ext.refl _) | (with_reducible assumption) | (with_reducible apply Ext.alloc) | (with_reducible apply Ext.drewN) | (with_reducible apply Ext.drew) | (with_reducible apply Ext.grow) | (with_reducible refine Ext.trans ?_ (by with_reducible assumption))))⟩
  | true =>
    rw [hs] at h1
    clear hs
    go_enter Tryz.func29, Tryz.ntmps29
    go_wp2_with (first | (go_at_call 37; refine (h1 _ hE0).mono ?_; rintro e w1 ⟨rfl, hE1⟩) | (go_at_call 61; refine (h2 _ hE1).mono ?_; rintro e w2 ⟨rfl, hE2⟩))
    go_ret
    exact ⟨ret_bool (by simp), hE0.trans (hE1.trans hE2)⟩
end Go.Proofs.YtflckpfpgpfjlaaGreatDoor
end
section
namespace Go.Proofs.YtflckpfpgpfjlaaGreatDoor
open Go.RowKit Go.Sort
attribute [local go_sem ↓] eqVal neVal
theorem equalR_any (v u : Value) (r s : List GV) (w : World) (hr : RdV w AnyB v r) (hs : RdV w AnyB u s) :
    Calls Tryz.prog 65 #[v, u] w fun e w' => e = .returned (.bool (sameR r s)) ∧ ∃ m, w' = w.drewN m := by
  obtain ⟨A, c, rfl, hc⟩ := hr.shape
  obtain ⟨B, d, rfl, hd⟩ := hs.shape
  have hl := hr.len
  have HR := As.mk hr
  have HS := As.mk hs
  have HV : As (sameR r s = (decide (r.length = s.length) && allS GV.same r s)) := ⟨rfl⟩
  clear hr hs
  generalize sameR r s = q at *
  by_cases hls : r.length = s.length
  · have hlb : ((r.length : Int) != (s.length : Int)) = false := by rw [hls]; simp
    have HV2 : As (allS GV.same (r.drop 0) (s.drop 0) = q) := ⟨by rw [HV.out, decide_eq_true hls]; simp⟩
    have HLS := As.mk hls
    clear HV hls
    go_enter Tryz.func65, Tryz.ntmps65
    go_wp2_with fail
    go_loopg [5, 13] r.length (fun g _ s5 wr => ∃ (k m : Nat), k ≤ r.length ∧ r.length - k ≤ g ∧ s5 = .int .i64 k ∧ wr = w.drewN m ∧ As (allS GV.same (r.drop k) (s.drop k) = q))
    case atStart => exact ⟨0, 0, by omega, by omega, by go_num, rfl, HV2⟩
    case round =>
      obtain ⟨k, m, hk, hg, rfl, rfl, HQ⟩ := hrel
      by_cases hlt : k < r.length
      · have hltz : (k : Int) < (r.length : Int) := by omega
        have hlts : (k : Int) < (s.length : Int) := by have := HLS.out; omega
        obtain ⟨x, hx⟩ : ∃ x, r[k]? = some x := ⟨_, List.getElem?_eq_getElem hlt⟩
        obtain ⟨y, hy⟩ : ∃ y, s[k]? = some y := ⟨_, List.getElem?_eq_getElem (by have := HLS.out; omega)⟩
        obtain ⟨b, o, c', hv, _, _, e0, e1, e2, e3⟩ := HR.out.val hx
        obtain ⟨b2, o2, c2, hv2, _, _, g0, g1, g2, g3⟩ := HS.out.val hy
        injection hv with hA _ hcc
        subst hA
        injection hv2 with hA _ hcc2
        subst hA
        have HST : As (q = (x.same y && allS GV.same (r.drop (k + 1)) (s.drop (k + 1)))) := ⟨by rw [← HQ.out, allS_step GV.same hx hy]⟩
        have HXY : As (x.same y = eqGV x.k x.n x.f x.t y.k y.n y.f y.t) := ⟨rfl⟩
        clear hx hy hcc hcc2
        generalize x.same y = xy at *
        obtain ⟨xk, xn, xf, xt⟩ := x
        obtain ⟨yk, yn, yf, yt⟩ := y
        simp only at *
        cases hz : eqGV xk xn xf xt yk yn yf yt
        · have hq : q = false := by rw [HST.out, HXY.out, hz]; rfl
          subst hq
          go_wp2_with fail
          go_quiet (fail)
          go_wp2
          go_ret
          exact ⟨rfl, _, World.drewN_drewN _ _ _⟩
        · have HQ2 : As (allS GV.same (r.drop (k + 1)) (s.drop (k + 1)) = q) := ⟨by rw [HST.out, HXY.out, hz, Bool.true_and]⟩
          go_wp2_with fail
          go_quiet (fail)
          go_wp2
          go_roundg (r.length - (k + 1))
          case measure => omega
          case rel => exact ⟨k + 1, _, by omega, by omega, by go_num, rfl, HQ2⟩
      · have hltz : ¬ (k : Int) < (r.length : Int) := by omega
        go_wp2
        go_ret
        exact ⟨ret_bool (by rw [← HQ.out, List.drop_eq_nil_of_le (by omega), List.drop_eq_nil_of_le (by have := HLS.out; omega)]; rfl), _, rfl⟩
  · have hlb : ((r.length : Int) != (s.length : Int)) = true := by simp; omega
    have hq : q = false := by rw [HV.out, decide_eq_false hls]; rfl
    subst hq
    go_enter Tryz.func65, Tryz.ntmps65
    go_wp2
    go_ret
    exact ⟨rfl, 0, rfl⟩
end Go.Proofs.YtflckpfpgpfjlaaGreatDoor
end
