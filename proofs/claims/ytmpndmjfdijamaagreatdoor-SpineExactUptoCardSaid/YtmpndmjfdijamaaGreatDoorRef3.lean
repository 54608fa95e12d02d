/- The walks of the reference's multisets: fair, Sound, copied, a total's weight, Weight. -/
import Derived.Test.YtmpndmjfdijamaaGreatDoorRef2
import Derived.Test.YtmpndmjfdijamaaGreatDoorMkLaw
set_option linter.unusedVariables false
set_option linter.unusedSimpArgs false
namespace Go.Proofs.YtmpndmjfdijamaaGreatDoor
open Go.RowKit Go.Sort
theorem r3fair_any (n : Int) (w : World) : Calls Tryz.prog 62 #[.int .i64 n] w fun e w' => e = .returned (.bool (fair n)) ∧ w = w' := by
  go_enter Tryz.func62, Tryz.ntmps62
  go_wp2
  all_goals (go_ret; exact ⟨ret_bool (by unfold fair; rw [Bool.eq_iff_iff]; simp; try omega), rfl⟩)
set_option maxRecDepth 100000 in
set_option maxHeartbeats 4000000 in
theorem r3Sound_any (v : Value) (z : List GE) (w : World) (hz : RdZ w AnyB v z) :
    Calls Tryz.prog 38 #[v] w fun e w' => e = .returned (.bool (zsound z)) ∧ Ext w w' := by
  have mixed := mixed
  obtain ⟨A, c, rfl, hc⟩ := hz.shape
  have hl := hz.len
  have HR := As.mk hz
  clear hz
  go_enter Tryz.func38, Tryz.ntmps38
  go_wp2
  go_loopg [3] z.length (fun g s3 wr => ∃ k : Nat, k ≤ z.length ∧ z.length - k ≤ g ∧ s3 = .int .i64 k ∧ As (Ext w wr) ∧ As (zsound0 (prev z k) (z.drop k) = zsound z))
  case atStart => exact ⟨0, Nat.zero_le _, by omega, by go_num, ⟨Ext.refl _⟩, ⟨rfl⟩⟩
  case round =>
    obtain ⟨k, hk, hg, rfl, HE, HA⟩ := hrel
    by_cases hlt : k < z.length
    · have hltz : (k : Int) < (z.length : Int) := by omega
      obtain ⟨x, hx⟩ : ∃ x, z[k]? = some x := ⟨_, List.getElem?_eq_getElem hlt⟩
      have HX := As.mk hx
      have HS := As.mk (zsound0_step z k x hx)
      obtain ⟨b, o, c', A0, d0, hv, hb, hxi, hrx, e0, e1⟩ := RdZ.ent HR.out hx
      injection hv with hA _ hcc
      subst hA
      replace e0 := HE.out.cell e0; replace e1 := HE.out.cell e1
      have ge0 := gc e0; have ge1 := gc e1
      have HRX := As.mk hrx
      clear hx hcc hrx
      obtain ⟨xr, xw⟩ := x
      simp only at *
      have hE0 := HE.out
      have f1 := fun W => r3fair_any xw W
      have f2 := fun W (hE : Ext w W) => r2Sound_any _ xr W (HRX.out.ext hE.below)
      have HS' : As (zsound z = ((!(xw == 0) && fair xw && rsound xr && (match prev z k with | none => true | some y => decide (rcmp y.row xr < 0))) && zsound0 (prev z (k + 1)) (z.drop (k + 1)))) := ⟨by rw [← HA.out, HS.out]; rfl⟩
      clear HS
      generalize hfx : fair xw = fx at *
      generalize hrx : rsound xr = rx at *
      clear hfx hrx
      by_cases h0 : xw = 0
      · subst h0
        go_wp2
        (refine wp_region_quiet_grown (by assumption) (by kernel_rfl) ?_; (repeat (go_big_quiet_step ( fail ))); refine wpQuiet_nil ?_; intro _ hw'; obtain ⟨⟨nq, osq⟩, hw''⟩ := hw'; subst hw'')
        go_wp2
        go_ret
        exact ⟨ret_bool (by rw [HS'.out]; simp), (by repeat (first | (with_reducible exact Ext.refl _) | (with_reducible assumption) | (with_reducible apply Ext.alloc) | (with_reducible apply Ext.drewN) | (with_reducible apply Ext.drew) | (with_reducible apply Ext.grow) | (with_reducible refine Ext.trans ?_ (by with_reducible assumption))))⟩
      have h0b : (xw == 0) = false := by simpa using h0
      cases fx
      · go_wp2
        (refine wp_region_quiet_grown (by assumption) (by kernel_rfl) ?_; (repeat (go_big_quiet_step ( (go_at_call 62; exact grown_ext ((f1 _).mono fun _ _ ⟨he, hw⟩ => ⟨he, hw ▸ Ext.refl _⟩)) ))); refine wpQuiet_nil ?_; intro _ hw'; obtain ⟨⟨nq, osq⟩, hw''⟩ := hw'; subst hw'')
        go_wp2
        go_ret
        exact ⟨ret_bool (by rw [HS'.out]; simp), (by repeat (first | (with_reducible exact Ext.refl _) | (with_reducible assumption) | (with_reducible apply Ext.alloc) | (with_reducible apply Ext.drewN) | (with_reducible apply Ext.drew) | (with_reducible apply Ext.grow) | (with_reducible refine Ext.trans ?_ (by with_reducible assumption))))⟩
      cases rx
      · go_wp2
        (refine wp_region_quiet_grown (by assumption) (by kernel_rfl) ?_; (repeat (go_big_quiet_step ( first | (go_at_call 62; exact grown_ext ((f1 _).mono fun _ _ ⟨he, hw⟩ => ⟨he, hw ▸ Ext.refl _⟩)) | (go_at_call 50; exact grown_ext (f2 _ (Ext.grow hE0 _ _))) ))); refine wpQuiet_nil ?_; intro _ hw'; obtain ⟨⟨nq, osq⟩, hw''⟩ := hw'; subst hw'')
        go_wp2
        go_ret
        exact ⟨ret_bool (by rw [HS'.out]; simp), (by repeat (first | (with_reducible exact Ext.refl _) | (with_reducible assumption) | (with_reducible apply Ext.alloc) | (with_reducible apply Ext.drewN) | (with_reducible apply Ext.drew) | (with_reducible apply Ext.grow) | (with_reducible refine Ext.trans ?_ (by with_reducible assumption))))⟩
      cases k with
      | zero =>
        simp only [Nat.zero_mul, Nat.add_zero] at e0 e1 ge0 ge1
        go_wp2
        (refine wp_region_quiet_grown (by assumption) (by kernel_rfl) ?_; (repeat (go_big_quiet_step ( first | (go_at_call 62; exact grown_ext ((f1 _).mono fun _ _ ⟨he, hw⟩ => ⟨he, hw ▸ Ext.refl _⟩)) | (go_at_call 50; exact grown_ext (f2 _ (Ext.grow hE0 _ _))) ))); refine wpQuiet_nil ?_; intro _ hw'; obtain ⟨⟨nq, osq⟩, hw''⟩ := hw'; subst hw'')
        go_wp2
        go_roundg (z.length - 1)
        case measure => omega
        case rel => exact ⟨1, by omega, by omega, by go_num, ⟨(by repeat (first | (with_reducible exact Ext.refl _) | (with_reducible assumption) | (with_reducible apply Ext.alloc) | (with_reducible apply Ext.drewN) | (with_reducible apply Ext.drew) | (with_reducible apply Ext.grow) | (with_reducible refine Ext.trans ?_ (by with_reducible assumption))))⟩, ⟨by rw [HS'.out]; simp [prev, h0]⟩⟩
      | succ k =>
        obtain ⟨y, hy⟩ : ∃ y, z[k]? = some y := ⟨_, List.getElem?_eq_getElem (by omega)⟩
        have HY : As (prev z (k + 1) = some y) := ⟨hy⟩
        obtain ⟨b', o', c', A1, d1, hv, hb', hyi, hry, p0, p1⟩ := RdZ.ent HR.out hy
        injection hv with hA _ hcc
        injection hA with hA
        injection hA with h1 h2 _
        subst h1 h2
        replace p0 := HE.out.cell p0; replace p1 := HE.out.cell p1
        have gp0 := gc p0; have gp1 := gc p1
        have HRY := As.mk hry
        obtain ⟨yr, yw⟩ := y
        simp only at *
        have f3 := fun W (hE : Ext w W) => r2Compare_any _ _ yr xr W (HRY.out.ext hE.below) (HRX.out.ext hE.below)
        clear hy hry hcc
        have hk1 : IntKind.i64.wrap ((k : Int) + 1 - 1) = (k : Int) := by rw [IntKind.wrap_i64]; omega
        have HS2 : As (zsound z = (decide (rcmp yr xr < 0) && zsound0 (prev z (k + 1 + 1)) (z.drop (k + 1 + 1)))) := ⟨by rw [HS'.out, HY.out]; simp [h0b]⟩
        clear HS'
        generalize rcmp yr xr = q at *
        have kz : decide ((0 : Int) < (k : Int) + 1) = true := decide_eq_true (by omega)
        have kz0 : (0 : Int) < (k : Int) + 1 := by omega
        have kz1 : (0 : Int) ≤ (k : Int) := by omega
        have kz2 : (k : Int) < (z.length : Int) := by omega
        have kz3 : ((k : Int)).toNat = k := by omega
        go_wp2
        (refine wp_region_quiet_grown (by assumption) (by kernel_rfl) ?_; (repeat (go_big_quiet_step ( first | (go_at_call 62; exact grown_ext ((f1 _).mono fun _ _ ⟨he, hw⟩ => ⟨he, hw ▸ Ext.refl _⟩)) | (go_at_call 50; exact grown_ext (f2 _ (Ext.grow hE0 _ _))) | (go_at_call 63; exact grown_ext (f3 _ (Ext.grow hE0 _ _))) ))); refine wpQuiet_nil ?_; intro _ hw'; obtain ⟨⟨nq, osq⟩, hw''⟩ := hw'; subst hw'')
        go_wp2
        · go_ret
          have : 0 ≤ q := by assumption
          exact ⟨ret_bool (by rw [HS2.out]; simp; omega), (by repeat (first | (with_reducible exact Ext.refl _) | (with_reducible assumption) | (with_reducible apply Ext.alloc) | (with_reducible apply Ext.drewN) | (with_reducible apply Ext.drew) | (with_reducible apply Ext.grow) | (with_reducible refine Ext.trans ?_ (by with_reducible assumption))))⟩
        · go_roundg (z.length - (k + 1 + 1))
          case measure => omega
          case rel =>
            have : q < 0 := by assumption
            exact ⟨k + 1 + 1, by omega, by omega, by go_num, ⟨(by repeat (first | (with_reducible exact Ext.refl _) | (with_reducible assumption) | (with_reducible apply Ext.alloc) | (with_reducible apply Ext.drewN) | (with_reducible apply Ext.drew) | (with_reducible apply Ext.grow) | (with_reducible refine Ext.trans ?_ (by with_reducible assumption))))⟩, ⟨by rw [HS2.out]; simp [this]⟩⟩
    · have hltz : ¬ (k : Int) < (z.length : Int) := by omega
      have hE0 := HE.out
      go_wp2
      go_ret
      exact ⟨ret_bool (by rw [← HA.out, List.drop_eq_nil_of_le (by omega)]; simp [zsound0]), (by repeat (first | (with_reducible exact Ext.refl _) | (with_reducible assumption) | (with_reducible apply Ext.alloc) | (with_reducible apply Ext.drewN) | (with_reducible apply Ext.drew) | (with_reducible apply Ext.grow) | (with_reducible refine Ext.trans ?_ (by with_reducible assumption))))⟩
theorem r3copied_any (v : Value) (r : List GV) (w : World) (hr : RdV w AnyB v r) :
    Calls Tryz.prog 100 #[v] w fun e w' => ∃ u, e = .returned u ∧ RdV w' (Fresh w.heap.size [55]) u r ∧ Below w.heap.size w w' := by
  obtain ⟨A, c, rfl, hc⟩ := hr.shape
  have hl := hr.len
  have HR1 : As (RdV (w.alloc (.cells #[] 55)) AnyB (.slice A r.length c) r) := ⟨hr.ext (Ext.alloc (Ext.refl _) _).below⟩
  have HO : As (OwnL 4 EV 55 (w.alloc (.cells #[] 55)) w.heap.size (.slice (some ⟨w.heap.size, 0, none⟩) 0 0) []) := ⟨OwnL.made 4 EV 55 w w.heap.size #[] 0 (Nat.le_refl _) (by decide) rfl⟩
  have HB : As (Below w.heap.size w (w.alloc (.cells #[] 55))) := ⟨(Below.refl _ _).alloc (Nat.le_refl _) _⟩
  clear hr
  go_enter Tryz.func100, Tryz.ntmps100
  go_wp2_with (at_builtin; refine OwnL.appends w.heap.size rfl _ _ 25 55 _ 4 40 rfl Tryz.underlying25 info_val rfl (by decide) (by decide) _ [] r _ _ _ rfl rfl HR1.out HO.out HB.out (by simp) (by simpa using hl) ?_; intro v1 w1 hown hb hg hat)
  go_ret
  exact ⟨_, rfl, OwnL.rd (by simpa using hown) (fun k hk => ⟨hk, by simp⟩), hb⟩
/-- What a total's weight answers. -/
def WPost (s : Int) (w : World) (e : Ending) (w' : World) : Prop := ∃ x, e = .returned (.tuple #[.int .i64 x, .bool (fair s)]) ∧ (fair s = true → x = s) ∧ Ext w w'
theorem WPost.bad {s : Int} {w w' : World} (h : fair s = false) (hE : Ext w w') : WPost s w (.returned (.tuple #[.int .i64 0, .bool false])) w' := ⟨0, by rw [h], fun h' => (by rw [h] at h'; cases h'), hE⟩
theorem WPost.good {s : Int} {w w' : World} (hE : Ext w w') : WPost s w (.returned (.tuple #[.int .i64 s, .bool (fair s)])) w' := ⟨s, rfl, fun _ => rfl, hE⟩
theorem r3weight_any (A : Option Addr) (n c : Nat) (h l : Int) (w : World) (hh : -4611686018427387904 ≤ h ∧ h ≤ 4611686018427387904) (hl : 0 ≤ l ∧ l ≤ 4611686018427387904) :
    Calls Tryz.prog 99 #[.agg #[.slice A n c, .int .i64 h, .int .i64 l]] w (WPost (h * 2147483648 + l) w) := by
  obtain ⟨a, ha⟩ : ∃ a, a = h + l / 2147483648 := ⟨_, rfl⟩
  obtain ⟨b, hb⟩ : ∃ b, b = l % 2147483648 := ⟨_, rfl⟩
  have e1 : IntKind.i64.wrap (h + l / 2147483648) = a := by rw [IntKind.wrap_i64]; omega
  have e2 : bits BinOp.and .i64 l 2147483647 = b := by
    rw [hb]
    exact bits_mask .i64 63 (by decide) (by intro n h1 h2; rw [IntKind.wrap_i64]; omega) 31 (by decide) l hl.1 (by omega)
  have e3 : h * 2147483648 + l = a * 2147483648 + b := by omega
  have hb0 : 0 ≤ b ∧ b < 2147483648 := by omega
  rw [e3]
  clear e3 ha hb hh hl
  by_cases h1 : 4294967296 ≤ a
  · have hf : As (fair (a * 2147483648 + b) = false) := ⟨by unfold fair; simp only [Bool.and_eq_false_iff, decide_eq_false_iff_not]; omega⟩
    go_enter Tryz.func99, Tryz.ntmps99
    go_wp2_with fail
    go_ret2
    exact WPost.bad hf.out (by repeat (first | (with_reducible exact Ext.refl _) | (with_reducible assumption) | (with_reducible apply Ext.alloc) | (with_reducible apply Ext.drewN) | (with_reducible apply Ext.drew) | (with_reducible apply Ext.grow) | (with_reducible refine Ext.trans ?_ (by with_reducible assumption))))
  by_cases h2 : a < -4294967296
  · have hf : As (fair (a * 2147483648 + b) = false) := ⟨by unfold fair; simp only [Bool.and_eq_false_iff, decide_eq_false_iff_not]; omega⟩
    go_enter Tryz.func99, Tryz.ntmps99
    go_wp2_with fail
    go_ret2
    exact WPost.bad hf.out (by repeat (first | (with_reducible exact Ext.refl _) | (with_reducible assumption) | (with_reducible apply Ext.alloc) | (with_reducible apply Ext.drewN) | (with_reducible apply Ext.drew) | (with_reducible apply Ext.grow) | (with_reducible refine Ext.trans ?_ (by with_reducible assumption))))
  have e4 : IntKind.i64.wrap (a * 2147483648) = a * 2147483648 := by rw [IntKind.wrap_i64]; omega
  have e5 : IntKind.i64.wrap (a * 2147483648 + b) = a * 2147483648 + b := by rw [IntKind.wrap_i64]; omega
  have f1 := fun W => r3fair_any (a * 2147483648 + b) W
  clear hb0
  go_enter Tryz.func99, Tryz.ntmps99
  go_wp2_with (go_at_call 62; refine (f1 _).mono ?_; rintro e w1 ⟨rfl, rfl⟩)
  go_ret2
  exact WPost.good (by repeat (first | (with_reducible exact Ext.refl _) | (with_reducible assumption) | (with_reducible apply Ext.alloc) | (with_reducible apply Ext.drewN) | (with_reducible apply Ext.drew) | (with_reducible apply Ext.grow) | (with_reducible refine Ext.trans ?_ (by with_reducible assumption))))
/-- A row's weight, looked for. -/
def lookR (z : List GE) (r : List GV) : Int := match z with
  | [] => 0
  | x :: z => if sameR x.row r = true then x.w else lookR z r
theorem lookR_zw {z : List GE} (h : ZOk z) (r : List GV) : lookR z r = zw z r := by
  induction z with
  | nil => rfl
  | cons x z ih =>
    rw [lookR]
    split
    · next hx =>
      have := (sameR_eq _ _).1 hx
      subst this
      rw [h.at (by simp)]
    · next hx => rw [zw_miss _ (fun e => hx ((sameR_eq _ _).2 e)), ih h.tail]
theorem lookR_step {z : List GE} {k : Nat} {x : GE} (hx : z[k]? = some x) (r : List GV) : lookR (z.drop k) r = if sameR x.row r = true then x.w else lookR (z.drop (k + 1)) r := by
  obtain ⟨h1, rfl⟩ := List.getElem?_eq_some_iff.1 hx
  rw [List.drop_eq_getElem_cons h1, lookR]
def rweight (z : List GE) (r : List GV) : Int := if zsound z = true ∧ rsound r = true then lookR z r else 0
set_option maxRecDepth 100000 in
set_option maxHeartbeats 4000000 in
theorem r3Weight_any (v u : Value) (z : List GE) (r : List GV) (w : World) (hz : RdZ w AnyB v z) (hr : RdV w AnyB u r) :
    Calls Tryz.prog 42 #[v, u] w fun e w' => e = .returned (.int .i64 (rweight z r)) ∧ Ext w w' := by
  have mixed := mixed
  obtain ⟨A, c, rfl, hc⟩ := hz.shape
  obtain ⟨B, d, rfl, hd⟩ := hr.shape
  have hl := hz.len
  have HZ := As.mk hz
  have HR := As.mk hr
  have s1 := fun W (hE : Ext w W) => r3Sound_any _ z W (HZ.out.ext hE.below)
  have s2 := fun W (hE : Ext w W) => r2Sound_any _ r W (HR.out.ext hE.below)
  clear hz hr
  cases h1 : zsound z
  · rw [h1] at s1
    have hv : rweight z r = 0 := by unfold rweight; rw [if_neg (by rw [h1]; simp)]
    rw [hv]
    clear hv h1 s2
    go_enter Tryz.func42, Tryz.ntmps42
    go_wp2_with (go_at_call 38; refine (s1 _ (by repeat (first | (with_reducible exact Ext.refl _) | (with_reducible assumption) | (with_reducible apply Ext.alloc) | (with_reducible apply Ext.drewN) | (with_reducible apply Ext.drew) | (with_reducible apply Ext.grow) | (with_reducible refine Ext.trans ?_ (by with_reducible assumption))))).mono ?_; rintro e w1 ⟨rfl, hE⟩)
    go_ret
    exact ⟨rfl, (by repeat (first | (with_reducible exact Ext.refl _) | (with_reducible assumption) | (with_reducible apply Ext.alloc) | (with_reducible apply Ext.drewN) | (with_reducible apply Ext.drew) | (with_reducible apply Ext.grow) | (with_reducible refine Ext.trans ?_ (by with_reducible assumption))))⟩
  cases h2 : rsound r
  · rw [h1] at s1; rw [h2] at s2
    have hv : rweight z r = 0 := by unfold rweight; rw [if_neg (by rw [h2]; simp)]
    rw [hv]
    clear hv h1 h2
    go_enter Tryz.func42, Tryz.ntmps42
    go_wp2_with fail
    refine (s1 _ (by repeat (first | (with_reducible exact Ext.refl _) | (with_reducible assumption) | (with_reducible apply Ext.alloc) | (with_reducible apply Ext.drewN) | (with_reducible apply Ext.drew) | (with_reducible apply Ext.grow) | (with_reducible refine Ext.trans ?_ (by with_reducible assumption))))).mono ?_
    rintro e w1 ⟨rfl, hE⟩
    go_wp2_with fail
    refine (s2 _ (by repeat (first | (with_reducible exact Ext.refl _) | (with_reducible assumption) | (with_reducible apply Ext.alloc) | (with_reducible apply Ext.drewN) | (with_reducible apply Ext.drew) | (with_reducible apply Ext.grow) | (with_reducible refine Ext.trans ?_ (by with_reducible assumption))))).mono ?_
    rintro e w2 ⟨rfl, hE2⟩
    go_wp2_with fail
    go_ret
    exact ⟨rfl, (by repeat (first | (with_reducible exact Ext.refl _) | (with_reducible assumption) | (with_reducible apply Ext.alloc) | (with_reducible apply Ext.drewN) | (with_reducible apply Ext.drew) | (with_reducible apply Ext.grow) | (with_reducible refine Ext.trans ?_ (by with_reducible assumption))))⟩
  rw [h1] at s1; rw [h2] at s2
  have hv : rweight z r = lookR z r := by unfold rweight; rw [if_pos ⟨h1, h2⟩]
  rw [hv]
  clear h1 h2 hv
  go_enter Tryz.func42, Tryz.ntmps42
  go_wp2_with fail
  refine (s1 _ (by repeat (first | (with_reducible exact Ext.refl _) | (with_reducible assumption) | (with_reducible apply Ext.alloc) | (with_reducible apply Ext.drewN) | (with_reducible apply Ext.drew) | (with_reducible apply Ext.grow) | (with_reducible refine Ext.trans ?_ (by with_reducible assumption))))).mono ?_
  rintro e w1 ⟨rfl, hE⟩
  go_wp2_with fail
  refine (s2 _ (by repeat (first | (with_reducible exact Ext.refl _) | (with_reducible assumption) | (with_reducible apply Ext.alloc) | (with_reducible apply Ext.drewN) | (with_reducible apply Ext.drew) | (with_reducible apply Ext.grow) | (with_reducible refine Ext.trans ?_ (by with_reducible assumption))))).mono ?_
  rintro e w2 ⟨rfl, hE2⟩
  have HE2 := As.mk (Ext.trans hE hE2)
  clear hE hE2 s1 s2
  go_wp2_with fail
  go_loopg [5] z.length (fun g s5 wr => ∃ k : Nat, k ≤ z.length ∧ z.length - k ≤ g ∧ s5 = .int .i64 k ∧ As (Ext w wr) ∧ As (lookR (z.drop k) r = lookR z r))
  case atStart => exact ⟨0, by omega, by omega, by go_num, HE2, ⟨rfl⟩⟩
  case round =>
    obtain ⟨k, hk, hg, rfl, HE, HA⟩ := hrel
    by_cases hlt : k < z.length
    · have hltz : (k : Int) < (z.length : Int) := by omega
      obtain ⟨x, hx⟩ : ∃ x, z[k]? = some x := ⟨_, List.getElem?_eq_getElem hlt⟩
      have HX := As.mk hx
      obtain ⟨b, o, c', A0, d0, hv, hb, hxi, hrx, e0, e1⟩ := RdZ.ent HZ.out hx
      injection hv with hA _ hcc
      subst hA
      replace e0 := HE.out.cell e0; replace e1 := HE.out.cell e1
      have ge0 := gc e0; have ge1 := gc e1
      have HRX := As.mk hrx
      have hE0 := HE.out
      have h2 := fun W (hE : Ext w W) => same2_any _ _ x.row r W (HRX.out.ext hE.below) (HR.out.ext hE.below)
      have HST := As.mk (lookR_step hx r)
      clear hx hcc hrx
      obtain ⟨xr, xw⟩ := x
      simp only at *
      generalize sameR xr r = q at *
      cases q
      · go_wp2_with (go_at_call 43; refine (h2 _ (by repeat (first | (with_reducible exact Ext.refl _) | (with_reducible assumption) | (with_reducible apply Ext.alloc) | (with_reducible apply Ext.drewN) | (with_reducible apply Ext.drew) | (with_reducible apply Ext.grow) | (with_reducible refine Ext.trans ?_ (by with_reducible assumption))))).mono ?_; rintro e w3 ⟨rfl, m3, rfl⟩)
        go_roundg (z.length - (k + 1))
        case measure => omega
        case rel => exact ⟨k + 1, by omega, by omega, by go_num, ⟨(by repeat (first | (with_reducible exact Ext.refl _) | (with_reducible assumption) | (with_reducible apply Ext.alloc) | (with_reducible apply Ext.drewN) | (with_reducible apply Ext.drew) | (with_reducible apply Ext.grow) | (with_reducible refine Ext.trans ?_ (by with_reducible assumption))))⟩, ⟨by rw [← HA.out, HST.out]; simp⟩⟩
      · go_wp2_with (go_at_call 43; refine (h2 _ (by repeat (first | (with_reducible exact Ext.refl _) | (with_reducible assumption) | (with_reducible apply Ext.alloc) | (with_reducible apply Ext.drewN) | (with_reducible apply Ext.drew) | (with_reducible apply Ext.grow) | (with_reducible refine Ext.trans ?_ (by with_reducible assumption))))).mono ?_; rintro e w3 ⟨rfl, m3, rfl⟩)
        go_ret
        exact ⟨ret_int (by rw [← HA.out, HST.out]; simp), (by repeat (first | (with_reducible exact Ext.refl _) | (with_reducible assumption) | (with_reducible apply Ext.alloc) | (with_reducible apply Ext.drewN) | (with_reducible apply Ext.drew) | (with_reducible apply Ext.grow) | (with_reducible refine Ext.trans ?_ (by with_reducible assumption))))⟩
    · have hltz : ¬ (k : Int) < (z.length : Int) := by omega
      have hE0 := HE.out
      go_wp2
      go_ret
      exact ⟨ret_int (by rw [← HA.out, List.drop_eq_nil_of_le (by omega)]; rfl), (by repeat (first | (with_reducible exact Ext.refl _) | (with_reducible assumption) | (with_reducible apply Ext.alloc) | (with_reducible apply Ext.drewN) | (with_reducible apply Ext.drew) | (with_reducible apply Ext.grow) | (with_reducible refine Ext.trans ?_ (by with_reducible assumption))))⟩
end Go.Proofs.YtmpndmjfdijamaaGreatDoor
