/- The walks of the reference's Same of rows and of multisets. -/
import Derived.Test.YtmpndmjfdijamaaGreatDoorLaw
import Derived.BigQuiet
set_option linter.unusedVariables false
set_option linter.unusedSimpArgs false
namespace Go.Proofs.YtmpndmjfdijamaaGreatDoor
open Go.RowKit Go.Sort
attribute [local go_sem ↓] eqVal neVal
def GV.same (x y : GV) : Bool := eqGV x.k x.n x.f x.t y.k y.n y.f y.t
theorem bytes_eq {t u : ByteArray} (h : t.toList = u.toList) : t = u := by
  rw [ByteArray.toList_eq, ByteArray.toList_eq] at h
  cases t with
  | mk a => cases u with
    | mk b => exact congrArg ByteArray.mk (Array.toList_inj.1 h)
theorem GV.same_eq {x y : GV} : x.same y = true ↔ x = y := by
  unfold GV.same eqGV
  cases x with
  | mk a b c d => cases y with
    | mk a' b' c' d' =>
      simp only [Bool.and_eq_true, beq_iff_eq, and_true, GV.mk.injEq]
      exact ⟨fun ⟨h1, h2, h3, h4⟩ => ⟨h1, h2, h3, bytes_eq h4⟩, fun ⟨h1, h2, h3, h4⟩ => ⟨h1, h2, h3, by rw [h4]⟩⟩
/-- All the same, one by one. -/
def allS {α : Type} (f : α → α → Bool) : List α → List α → Bool
  | x :: r, y :: s => f x y && allS f r s
  | _, _ => true
theorem allS_step {α : Type} (f : α → α → Bool) {r s : List α} {k : Nat} {x y : α} (hx : r[k]? = some x) (hy : s[k]? = some y) : allS f (r.drop k) (s.drop k) = (f x y && allS f (r.drop (k + 1)) (s.drop (k + 1))) := by
  obtain ⟨h1, rfl⟩ := List.getElem?_eq_some_iff.1 hx
  obtain ⟨h2, rfl⟩ := List.getElem?_eq_some_iff.1 hy
  rw [List.drop_eq_getElem_cons h1, List.drop_eq_getElem_cons h2, allS]
theorem allS_eq {α : Type} {f : α → α → Bool} (hf : ∀ x y, f x y = true ↔ x = y) : ∀ {r s : List α}, r.length = s.length → (allS f r s = true ↔ r = s)
  | [], [], _ => by simp [allS]
  | [], _ :: _, h => by simp at h
  | _ :: _, [], h => by simp at h
  | x :: r, y :: s, h => by
    rw [allS, Bool.and_eq_true, hf, allS_eq hf (by simpa using h), List.cons.injEq]
def sameR (r s : List GV) : Bool := decide (r.length = s.length) && allS GV.same r s
theorem sameR_eq (r s : List GV) : sameR r s = true ↔ r = s := by
  unfold sameR
  rw [Bool.and_eq_true, decide_eq_true_eq]
  exact ⟨fun ⟨h1, h2⟩ => (allS_eq (fun _ _ => GV.same_eq) h1).1 h2, fun h => ⟨by rw [h], (allS_eq (fun _ _ => GV.same_eq) (by rw [h])).2 h⟩⟩
def GE.same (x y : GE) : Bool := x.w == y.w && sameR x.row y.row
theorem GE.same_eq (x y : GE) : x.same y = true ↔ x = y := by
  unfold GE.same
  cases x; cases y
  rw [Bool.and_eq_true, beq_iff_eq, sameR_eq]
  simp only [GE.mk.injEq]
  exact ⟨fun ⟨a, b⟩ => ⟨b, a⟩, fun ⟨a, b⟩ => ⟨b, a⟩⟩
def sameZ (r s : List GE) : Bool := decide (r.length = s.length) && allS GE.same r s
theorem sameZ_eq (r s : List GE) : sameZ r s = true ↔ r = s := by
  unfold sameZ
  rw [Bool.and_eq_true, decide_eq_true_eq]
  exact ⟨fun ⟨h1, h2⟩ => (allS_eq GE.same_eq h1).1 h2, fun h => ⟨by rw [h], (allS_eq GE.same_eq (by rw [h])).2 h⟩⟩
theorem same2_any (v u : Value) (r s : List GV) (w : World) (hr : RdV w AnyB v r) (hs : RdV w AnyB u s) :
    Calls Tryz.prog 43 #[v, u] w fun e w' => e = .returned (.bool (sameR r s)) ∧ ∃ m, w' = w.drewN m := by
  obtain ⟨A, c, rfl, hc⟩ := hr.shape
  obtain ⟨B, d, rfl, hd⟩ := hs.shape
  have hl := hr.len
  have HR := As.mk hr
  have HS := As.mk hs
  have HV : As (sameR r s = (decide (r.length = s.length) && allS GV.same r s)) := ⟨rfl⟩
  clear hr hs
  generalize sameR r s = q at *
  by_cases hls : r.length = s.length
  · have hlb : ((r.length : Int) != (s.length : Int)) = false := by rw [hls]; simp
    have HV2 : As (allS GV.same (r.drop 0) (s.drop 0) = q) := ⟨by rw [HV.out, decide_eq_true hls]; simp⟩
    have HLS := As.mk hls
    clear HV hls
    go_enter Tryz.func43, Tryz.ntmps43
    go_wp2_with fail
    go_loopg [5] r.length (fun g s5 wr => ∃ (k m : Nat), k ≤ r.length ∧ r.length - k ≤ g ∧ s5 = .int .i64 k ∧ wr = w.drewN m ∧ As (allS GV.same (r.drop k) (s.drop k) = q))
    case atStart => exact ⟨0, 0, by omega, by omega, by go_num, rfl, HV2⟩
    case round =>
      obtain ⟨k, m, hk, hg, rfl, rfl, HQ⟩ := hrel
      by_cases hlt : k < r.length
      · have hltz : (k : Int) < (r.length : Int) := by omega
        have hlts : (k : Int) < (s.length : Int) := by have := HLS.out; omega
        obtain ⟨x, hx⟩ : ∃ x, r[k]? = some x := ⟨_, List.getElem?_eq_getElem hlt⟩
        obtain ⟨y, hy⟩ : ∃ y, s[k]? = some y := ⟨_, List.getElem?_eq_getElem (by have := HLS.out; omega)⟩
        obtain ⟨b, o, c', hv, _, _, e0, e1, e2, e3⟩ := HR.out.val hx
        obtain ⟨b2, o2, c2, hv2, _, _, g0, g1, g2, g3⟩ := HS.out.val hy
        injection hv with hA _ hcc
        subst hA
        injection hv2 with hA _ hcc2
        subst hA
        have HST : As (q = (x.same y && allS GV.same (r.drop (k + 1)) (s.drop (k + 1)))) := ⟨by rw [← HQ.out, allS_step GV.same hx hy]⟩
        have HXY : As (x.same y = eqGV x.k x.n x.f x.t y.k y.n y.f y.t) := ⟨rfl⟩
        clear hx hy hcc hcc2
        generalize x.same y = xy at *
        obtain ⟨xk, xn, xf, xt⟩ := x
        obtain ⟨yk, yn, yf, yt⟩ := y
        simp only at *
        cases hz : eqGV xk xn xf xt yk yn yf yt
        · have hq : q = false := by rw [HST.out, HXY.out, hz]; rfl
          subst hq
          go_wp2_with fail
          go_quiet (fail)
          go_wp2
          go_ret
          exact ⟨rfl, _, World.drewN_drewN _ _ _⟩
        · have HQ2 : As (allS GV.same (r.drop (k + 1)) (s.drop (k + 1)) = q) := ⟨by rw [HST.out, HXY.out, hz, Bool.true_and]⟩
          go_wp2_with fail
          go_quiet (fail)
          go_wp2
          go_roundg (r.length - (k + 1))
          case measure => omega
          case rel => exact ⟨k + 1, _, by omega, by omega, by go_num, rfl, HQ2⟩
      · have hltz : ¬ (k : Int) < (r.length : Int) := by omega
        go_wp2
        go_ret
        exact ⟨ret_bool (by rw [← HQ.out, List.drop_eq_nil_of_le (by omega), List.drop_eq_nil_of_le (by have := HLS.out; omega)]; rfl), _, rfl⟩
  · have hlb : ((r.length : Int) != (s.length : Int)) = true := by simp; omega
    have hq : q = false := by rw [HV.out, decide_eq_false hls]; rfl
    subst hq
    go_enter Tryz.func43, Tryz.ntmps43
    go_wp2
    go_ret
    exact ⟨rfl, 0, rfl⟩
theorem same3_any (v u : Value) (r s : List GE) (w : World) (hr : RdZ w AnyB v r) (hs : RdZ w AnyB u s) :
    Calls Tryz.prog 18 #[v, u] w fun e w' => e = .returned (.bool (sameZ r s)) ∧ ∃ m, w' = w.drewN m := by
  obtain ⟨A, c, rfl, hc⟩ := hr.shape
  obtain ⟨B, d, rfl, hd⟩ := hs.shape
  have hl := hr.len
  have HR := As.mk hr
  have HS := As.mk hs
  have HV : As (sameZ r s = (decide (r.length = s.length) && allS GE.same r s)) := ⟨rfl⟩
  clear hr hs
  generalize sameZ r s = q at *
  by_cases hls : r.length = s.length
  · have hlb : ((r.length : Int) != (s.length : Int)) = false := by rw [hls]; simp
    have HV2 : As (allS GE.same (r.drop 0) (s.drop 0) = q) := ⟨by rw [HV.out, decide_eq_true hls]; simp⟩
    have HLS := As.mk hls
    clear HV hls
    go_enter Tryz.func18, Tryz.ntmps18
    go_wp2_with fail
    go_loopg [5] r.length (fun g s5 wr => ∃ (k m : Nat), k ≤ r.length ∧ r.length - k ≤ g ∧ s5 = .int .i64 k ∧ wr = w.drewN m ∧ As (allS GE.same (r.drop k) (s.drop k) = q))
    case atStart => exact ⟨0, 0, by omega, by omega, by go_num, rfl, HV2⟩
    case round =>
      obtain ⟨k, m, hk, hg, rfl, rfl, HQ⟩ := hrel
      by_cases hlt : k < r.length
      · have hltz : (k : Int) < (r.length : Int) := by omega
        have hlts : (k : Int) < (s.length : Int) := by have := HLS.out; omega
        obtain ⟨x, hx⟩ : ∃ x, r[k]? = some x := ⟨_, List.getElem?_eq_getElem hlt⟩
        obtain ⟨y, hy⟩ : ∃ y, s[k]? = some y := ⟨_, List.getElem?_eq_getElem (by have := HLS.out; omega)⟩
        obtain ⟨b, o, c', A1, d1, hv, _, _, hxr, e0, e1⟩ := HR.out.ent hx
        obtain ⟨b2, o2, c2, A2, d2, hv2, _, _, hyr, g0, g1⟩ := HS.out.ent hy
        injection hv with hA _ hcc
        subst hA
        injection hv2 with hA _ hcc2
        subst hA
        have HST : As (q = (x.same y && allS GE.same (r.drop (k + 1)) (s.drop (k + 1)))) := ⟨by rw [← HQ.out, allS_step GE.same hx hy]⟩
        have HXY : As (x.same y = (x.w == y.w && sameR x.row y.row)) := ⟨rfl⟩
        have h2 := fun n => same2_any _ _ x.row y.row (w.drewN n) (hxr.ext (Ext.drewN (Ext.refl w) n).below) (hyr.ext (Ext.drewN (Ext.refl w) n).below)
        clear hx hy hcc hcc2 hxr hyr
        generalize x.same y = xy at *
        obtain ⟨xr, xw⟩ := x
        obtain ⟨yr, yw⟩ := y
        simp only at *
        generalize sameR xr yr = sr at *
        by_cases hwe : xw = yw
        · subst hwe
          have hwb : (xw != xw) = false := by simp
          cases sr
          · have hq : q = false := by rw [HST.out, HXY.out]; simp
            subst hq
            go_wp2_with fail
            go_quiet ((go_at_call 43; exact (h2 _).mono fun _ _ ⟨he, n, hw⟩ => ⟨he, _, hw.trans ((World.drewN_drewN _ _ _).trans (congrArg (World.drewN w) (Nat.add_assoc _ _ _)))⟩))
            go_wp2
            go_ret
            exact ⟨rfl, _, World.drewN_drewN _ _ _⟩
          · have HQ2 : As (allS GE.same (r.drop (k + 1)) (s.drop (k + 1)) = q) := ⟨by rw [HST.out, HXY.out]; simp⟩
            go_wp2_with fail
            go_quiet ((go_at_call 43; exact (h2 _).mono fun _ _ ⟨he, n, hw⟩ => ⟨he, _, hw.trans ((World.drewN_drewN _ _ _).trans (congrArg (World.drewN w) (Nat.add_assoc _ _ _)))⟩))
            go_wp2
            go_roundg (r.length - (k + 1))
            case measure => omega
            case rel => exact ⟨k + 1, _, by omega, by omega, by go_num, rfl, HQ2⟩
        · have hwb : (xw != yw) = true := by simpa using hwe
          have hq : q = false := by rw [HST.out, HXY.out, beq_eq_false_iff_ne.2 hwe]; rfl
          subst hq
          clear hwe
          go_wp2_with fail
          go_quiet (fail)
          go_wp2
          go_ret
          exact ⟨rfl, _, World.drewN_drewN _ _ _⟩
      · have hltz : ¬ (k : Int) < (r.length : Int) := by omega
        go_wp2
        go_ret
        exact ⟨ret_bool (by rw [← HQ.out, List.drop_eq_nil_of_le (by omega), List.drop_eq_nil_of_le (by have := HLS.out; omega)]; rfl), _, rfl⟩
  · have hlb : ((r.length : Int) != (s.length : Int)) = true := by simp; omega
    have hq : q = false := by rw [HV.out, decide_eq_false hls]; rfl
    subst hq
    go_enter Tryz.func18, Tryz.ntmps18
    go_wp2
    go_ret
    exact ⟨rfl, 0, rfl⟩
end Go.Proofs.YtmpndmjfdijamaaGreatDoor
