/- The walks of val.Compare and of the package row as far as comparing goes. -/
import Derived.Test.YtmpndmjfdijamaaGreatDoorVal
set_option linter.unusedVariables false
set_option linter.unusedSimpArgs false
namespace Go.Proofs.YtmpndmjfdijamaaGreatDoor
open Go.RowKit Go.Sort
theorem mixed : Tryz.prog.follows .mixedOrders = true := by kernel_rfl
theorem vCompare_any (x y : GV) (w : World) (hx : x.Ok) (hy : y.Ok) :
    Calls Tryz.prog 108 #[.agg #[.int .i64 x.k, .int .i64 x.n, .int .u64 x.f, .string x.t], .agg #[.int .i64 y.k, .int .i64 y.n, .int .u64 y.f, .string y.t]] w fun e w' => e = .returned (.int .i64 (vcmp x y)) ∧ Ext w w' := by
  have mixed := mixed
  have s1 := fun W => vSound_any x W hx
  have s2 := fun W => vSound_any y W hy
  obtain ⟨k, n, f, t⟩ := x
  obtain ⟨k', n', f', t'⟩ := y
  simp only at *
  cases h1 : vsound ⟨k, n, f, t⟩
  · rw [h1] at s1
    have hv : vcmp ⟨k, n, f, t⟩ ⟨k', n', f', t'⟩ = 0 := by unfold vcmp; rw [if_pos (.inl h1)]
    rw [hv]
    clear hv h1 s2 hx hy
    go_enter Tryz.func108, Tryz.ntmps108
    go_wp2_with (go_at_call 67; refine (s1 _).mono ?_; rintro e w1 ⟨rfl, hE⟩)
    go_ret
    exact ⟨rfl, (by repeat (first | (with_reducible exact Ext.refl _) | (with_reducible assumption) | (with_reducible apply Ext.alloc) | (with_reducible apply Ext.drewN) | (with_reducible apply Ext.drew) | (with_reducible apply Ext.grow) | (with_reducible refine Ext.trans ?_ (by with_reducible assumption))))⟩
  cases h2 : vsound ⟨k', n', f', t'⟩
  · rw [h1] at s1; rw [h2] at s2
    have hv : vcmp ⟨k, n, f, t⟩ ⟨k', n', f', t'⟩ = 0 := by unfold vcmp; rw [if_pos (.inr h2)]
    rw [hv]
    clear hv h1 h2 hx hy
    go_enter Tryz.func108, Tryz.ntmps108
    go_wp2_with fail
    refine (s1 _).mono ?_
    rintro e w1 ⟨rfl, hE⟩
    have V1 := ((ValAt.new w w.heap.size _ _ _ _ _ rfl).ext (Ext.alloc (Ext.refl _) _)).ext hE; have V2 := (ValAt.new _ (w.heap.size + 1) _ _ _ _ _ (by simp)).ext hE; obtain ⟨a10, a11, a12, a13⟩ := V1; obtain ⟨a20, a21, a22, a23⟩ := V2
    go_wp2_with fail
    refine (s2 _).mono ?_
    rintro e w2 ⟨rfl, hE2⟩
    go_wp2_with fail
    go_ret
    exact ⟨rfl, (by repeat (first | (with_reducible exact Ext.refl _) | (with_reducible assumption) | (with_reducible apply Ext.alloc) | (with_reducible apply Ext.drewN) | (with_reducible apply Ext.drew) | (with_reducible apply Ext.grow) | (with_reducible refine Ext.trans ?_ (by with_reducible assumption))))⟩
  rw [h1] at s1; rw [h2] at s2
  have hv : vcmp ⟨k, n, f, t⟩ ⟨k', n', f', t'⟩ = if k ≠ k' then icmp k k' else if k = 3 then fcmp f.toNat f'.toNat else if k = 4 then scmp t t' else icmp n n' := by
    unfold vcmp; rw [if_neg (by rw [h1, h2]; simp)]
  rw [hv]
  clear hv h1 h2 hx hy
  by_cases hk : k = k'
  · subst hk
    rw [if_neg (by simp)]
    by_cases k3 : k = 3
    · subst k3
      rw [if_pos rfl]
      go_enter Tryz.func108, Tryz.ntmps108
      go_wp2_with fail
      refine (s1 _).mono ?_
      rintro e w1 ⟨rfl, hE⟩
      have V1 := ((ValAt.new w w.heap.size _ _ _ _ _ rfl).ext (Ext.alloc (Ext.refl _) _)).ext hE; have V2 := (ValAt.new _ (w.heap.size + 1) _ _ _ _ _ (by simp)).ext hE; obtain ⟨a10, a11, a12, a13⟩ := V1; obtain ⟨a20, a21, a22, a23⟩ := V2
      go_wp2_with fail
      refine (s2 _).mono ?_
      rintro e w2 ⟨rfl, hE2⟩
      have V1 := ValAt.ext ⟨a10, a11, a12, a13⟩ hE2; have V2 := ValAt.ext ⟨a20, a21, a22, a23⟩ hE2; clear a10 a11 a12 a13 a20 a21 a22 a23; obtain ⟨a10, a11, a12, a13⟩ := V1; obtain ⟨a20, a21, a22, a23⟩ := V2
      have g10 := fun m os => (ValAt.ext (W' := grow (w2.drewN m) os) ⟨a10, a11, a12, a13⟩ ⟨m, os, rfl⟩).1
      have g11 := fun m os => (ValAt.ext (W' := grow (w2.drewN m) os) ⟨a10, a11, a12, a13⟩ ⟨m, os, rfl⟩).2.1
      have g12 := fun m os => (ValAt.ext (W' := grow (w2.drewN m) os) ⟨a10, a11, a12, a13⟩ ⟨m, os, rfl⟩).2.2.1
      have g13 := fun m os => (ValAt.ext (W' := grow (w2.drewN m) os) ⟨a10, a11, a12, a13⟩ ⟨m, os, rfl⟩).2.2.2
      have g20 := fun m os => (ValAt.ext (W' := grow (w2.drewN m) os) ⟨a20, a21, a22, a23⟩ ⟨m, os, rfl⟩).1
      have g21 := fun m os => (ValAt.ext (W' := grow (w2.drewN m) os) ⟨a20, a21, a22, a23⟩ ⟨m, os, rfl⟩).2.1
      have g22 := fun m os => (ValAt.ext (W' := grow (w2.drewN m) os) ⟨a20, a21, a22, a23⟩ ⟨m, os, rfl⟩).2.2.1
      have g23 := fun m os => (ValAt.ext (W' := grow (w2.drewN m) os) ⟨a20, a21, a22, a23⟩ ⟨m, os, rfl⟩).2.2.2
      go_wp2_with fail
      go_quiet_grown (first | (go_at_call 136; exact grown_ext (vfloat_any _ _ _ _ _)) | (go_at_call 135; exact grown_ext ((cmpFloats_any _ _ _).mono fun _ _ ⟨he, hw⟩ => ⟨he, hw ▸ Ext.refl _⟩)))
      go_wp2_with fail
      go_ret
      exact ⟨rfl, (by repeat (first | (with_reducible exact Ext.refl _) | (with_reducible assumption) | (with_reducible apply Ext.alloc) | (with_reducible apply Ext.drewN) | (with_reducible apply Ext.drew) | (with_reducible apply Ext.grow) | (with_reducible refine Ext.trans ?_ (by with_reducible assumption))))⟩
    · rw [if_neg k3]
      have k3b : (k == 3) = false := by simpa using k3
      by_cases k4 : k = 4
      · subst k4
        rw [if_pos rfl]
        go_enter Tryz.func108, Tryz.ntmps108
        go_wp2_with fail
        refine (s1 _).mono ?_
        rintro e w1 ⟨rfl, hE⟩
        have V1 := ((ValAt.new w w.heap.size _ _ _ _ _ rfl).ext (Ext.alloc (Ext.refl _) _)).ext hE; have V2 := (ValAt.new _ (w.heap.size + 1) _ _ _ _ _ (by simp)).ext hE; obtain ⟨a10, a11, a12, a13⟩ := V1; obtain ⟨a20, a21, a22, a23⟩ := V2
        go_wp2_with fail
        refine (s2 _).mono ?_
        rintro e w2 ⟨rfl, hE2⟩
        have V1 := ValAt.ext ⟨a10, a11, a12, a13⟩ hE2; have V2 := ValAt.ext ⟨a20, a21, a22, a23⟩ hE2; clear a10 a11 a12 a13 a20 a21 a22 a23; obtain ⟨a10, a11, a12, a13⟩ := V1; obtain ⟨a20, a21, a22, a23⟩ := V2
        go_wp2_with (go_at_call 47; refine (strCompare_any _ _ _).mono ?_; rintro e w' ⟨rfl, rfl⟩)
        go_ret
        exact ⟨rfl, (by repeat (first | (with_reducible exact Ext.refl _) | (with_reducible assumption) | (with_reducible apply Ext.alloc) | (with_reducible apply Ext.drewN) | (with_reducible apply Ext.drew) | (with_reducible apply Ext.grow) | (with_reducible refine Ext.trans ?_ (by with_reducible assumption))))⟩
      · rw [if_neg k4]
        have k4b : (k == 4) = false := by simpa using k4
        go_enter Tryz.func108, Tryz.ntmps108
        go_wp2_with fail
        refine (s1 _).mono ?_
        rintro e w1 ⟨rfl, hE⟩
        have V1 := ((ValAt.new w w.heap.size _ _ _ _ _ rfl).ext (Ext.alloc (Ext.refl _) _)).ext hE; have V2 := (ValAt.new _ (w.heap.size + 1) _ _ _ _ _ (by simp)).ext hE; obtain ⟨a10, a11, a12, a13⟩ := V1; obtain ⟨a20, a21, a22, a23⟩ := V2
        go_wp2_with fail
        refine (s2 _).mono ?_
        rintro e w2 ⟨rfl, hE2⟩
        have V1 := ValAt.ext ⟨a10, a11, a12, a13⟩ hE2; have V2 := ValAt.ext ⟨a20, a21, a22, a23⟩ hE2; clear a10 a11 a12 a13 a20 a21 a22 a23; obtain ⟨a10, a11, a12, a13⟩ := V1; obtain ⟨a20, a21, a22, a23⟩ := V2
        go_wp2_with (go_at_call 134; refine (cmpInt_any _ _ _).mono ?_; rintro e w' ⟨rfl, rfl⟩)
        go_ret
        exact ⟨rfl, (by repeat (first | (with_reducible exact Ext.refl _) | (with_reducible assumption) | (with_reducible apply Ext.alloc) | (with_reducible apply Ext.drewN) | (with_reducible apply Ext.drew) | (with_reducible apply Ext.grow) | (with_reducible refine Ext.trans ?_ (by with_reducible assumption))))⟩
  · rw [if_pos hk]
    have hkb : (k != k') = true := by simpa using hk
    go_enter Tryz.func108, Tryz.ntmps108
    go_wp2_with fail
    refine (s1 _).mono ?_
    rintro e w1 ⟨rfl, hE⟩
    have V1 := ((ValAt.new w w.heap.size _ _ _ _ _ rfl).ext (Ext.alloc (Ext.refl _) _)).ext hE; have V2 := (ValAt.new _ (w.heap.size + 1) _ _ _ _ _ (by simp)).ext hE; obtain ⟨a10, a11, a12, a13⟩ := V1; obtain ⟨a20, a21, a22, a23⟩ := V2
    go_wp2_with fail
    refine (s2 _).mono ?_
    rintro e w2 ⟨rfl, hE2⟩
    have V1 := ValAt.ext ⟨a10, a11, a12, a13⟩ hE2; have V2 := ValAt.ext ⟨a20, a21, a22, a23⟩ hE2; clear a10 a11 a12 a13 a20 a21 a22 a23; obtain ⟨a10, a11, a12, a13⟩ := V1; obtain ⟨a20, a21, a22, a23⟩ := V2
    go_wp2_with (go_at_call 134; refine (cmpInt_any _ _ _).mono ?_; rintro e w' ⟨rfl, rfl⟩)
    go_ret
    exact ⟨rfl, (by repeat (first | (with_reducible exact Ext.refl _) | (with_reducible assumption) | (with_reducible apply Ext.alloc) | (with_reducible apply Ext.drewN) | (with_reducible apply Ext.drew) | (with_reducible apply Ext.grow) | (with_reducible refine Ext.trans ?_ (by with_reducible assumption))))⟩
theorem rSound1_any (x : GV) (w : World) (hx : x.Ok) :
    Calls Tryz.prog 66 #[.agg #[.int .i64 x.k, .int .i64 x.n, .int .u64 x.f, .string x.t]] w fun e w' => e = .returned (.bool (!vsound x)) ∧ Ext w w' := by
  have s1 := fun W => vSound_any x W hx
  generalize vsound x = b at *
  obtain ⟨k, n, f, t⟩ := x
  simp only at *
  clear hx
  go_enter Tryz.func66, Tryz.ntmps66
  go_wp2_with (go_at_call 67; refine (s1 _).mono ?_; rintro e w1 ⟨rfl, hE⟩)
  go_ret
  exact ⟨rfl, (by repeat (first | (with_reducible exact Ext.refl _) | (with_reducible assumption) | (with_reducible apply Ext.alloc) | (with_reducible apply Ext.drewN) | (with_reducible apply Ext.drew) | (with_reducible apply Ext.grow) | (with_reducible refine Ext.trans ?_ (by with_reducible assumption))))⟩
/-- Where the first value that is none stands. -/
def badAt : List GV → Int
  | [] => -1
  | x :: r => if vsound x then (if badAt r = -1 then -1 else badAt r + 1) else 0
theorem badAt_nonneg (r : List GV) : -1 ≤ badAt r := by
  induction r with
  | nil => simp [badAt]
  | cons x r ih => unfold badAt; (repeat' split) <;> omega
theorem badAt_any (r : List GV) : decide (0 ≤ badAt r) = r.any fun x => !vsound x := by
  induction r with
  | nil => simp [badAt]
  | cons x r ih =>
    have h1 := badAt_nonneg r
    rw [List.any_cons, ← ih, badAt]
    by_cases hx : vsound x = true
    · rw [if_pos hx, hx]
      by_cases h2 : badAt r = -1
      · rw [if_pos h2, h2]; rfl
      · rw [if_neg h2]
        have : 0 ≤ badAt r := by omega
        have h3 : 0 ≤ badAt r + 1 := by omega
        simp [this, h3]
    · rw [if_neg hx]
      have : vsound x = false := by simpa using hx
      simp [this]
theorem badAt_hit (r : List GV) (j : Nat) (x : GV) (hj : r[j]? = some x) (h : ∀ (i : Nat) (y : GV), i < j → r[i]? = some y → vsound y = true) (hx : vsound x = false) : badAt r = j := by
  induction r generalizing j with
  | nil => simp at hj
  | cons a r ih =>
    cases j with
    | zero => simp at hj; subst hj; simp [badAt, hx]
    | succ j =>
      have ha : vsound a = true := h 0 a (by omega) rfl
      have := ih j (by simpa using hj) (fun i y hi hy => h (i + 1) y (by omega) (by simpa using hy))
      simp only [badAt, ha, if_true, this]
      rw [if_neg (by omega)]; omega
theorem badAt_miss (r : List GV) (h : ∀ (i : Nat) (y : GV), r[i]? = some y → vsound y = true) : badAt r = -1 := by
  induction r with
  | nil => rfl
  | cons a r ih =>
    have ha : vsound a = true := h 0 a rfl
    have := ih (fun i y hy => h (i + 1) y (by simpa using hy))
    simp [badAt, ha, this]
set_option maxHeartbeats 1000000 in
theorem idxVal_any (v : Value) (r : List GV) (w : World) (hr : RdV w AnyB v r) :
    Calls Tryz.prog 101 #[v, .func (.func 66) #[] #[]] w fun e w' => e = .returned (.int .i64 (badAt r)) ∧ Ext w w' := by
  obtain ⟨A, c, rfl, hc⟩ := hr.shape
  have hl := hr.len
  have HR := As.mk hr
  clear hr
  go_enter Tryz.func101, Tryz.ntmps101
  go_wp2
  go_loopg [5, 8] r.length (fun g _ s8 wr => ∃ k : Nat, k ≤ r.length ∧ r.length - k ≤ g ∧ s8 = .int .i64 k ∧ As (Ext w wr) ∧ As (∀ i y, i < k → r[i]? = some y → vsound y = true))
  case atStart => exact ⟨0, Nat.zero_le _, by omega, rfl, ⟨Ext.refl _⟩, ⟨fun i y hi => absurd hi (Nat.not_lt_zero _)⟩⟩
  case round =>
    obtain ⟨k, hk, hg, rfl, HE, HA⟩ := hrel
    by_cases hlt : k < r.length
    · have hltz : (k : Int) < (r.length : Int) := by omega
      obtain ⟨x, hx⟩ : ∃ x, r[k]? = some x := ⟨_, List.getElem?_eq_getElem hlt⟩
      obtain ⟨b, o, c', hv, hb, hok, c0, c1, c2, c3⟩ := RdV.val HR.out hx
      injection hv with hA _ hcc
      subst hA
      have s1 := fun W => rSound1_any x W hok
      replace c0 := HE.out.cell c0; replace c1 := HE.out.cell c1; replace c2 := HE.out.cell c2; replace c3 := HE.out.cell c3
      have HX := As.mk hx
      clear hx hcc hok
      cases hs : vsound x
      · rw [hs] at s1
        have HS := As.mk hs
        clear hs
        go_wp2_with (go_at_call 66; refine (s1 _).mono ?_; rintro e w1 ⟨rfl, hE⟩)
        go_ret
        exact ⟨ret_int (badAt_hit r k x HX.out HA.out HS.out).symm, HE.out.trans hE⟩
      · rw [hs] at s1
        have HS := As.mk hs
        clear hs
        go_wp2_with (go_at_call 66; refine (s1 _).mono ?_; rintro e w1 ⟨rfl, hE⟩)
        go_roundg (r.length - (k + 1))
        case measure => omega
        case rel =>
          refine ⟨k + 1, by omega, by omega, by go_num, ⟨HE.out.trans hE⟩, ⟨fun i y hi hy => ?_⟩⟩
          by_cases e : i = k
          · subst e; rw [HX.out] at hy; injection hy with hy; subst hy; exact HS.out
          · exact HA.out i y (by omega) hy
    · have hltz : ¬ (k : Int) < (r.length : Int) := by omega
      go_wp2
      go_ret
      exact ⟨ret_int (badAt_miss r fun i y hy => HA.out i y (by have := (List.getElem?_eq_some_iff.1 hy).1; omega) hy).symm, HE.out⟩
theorem contVal_any (v : Value) (r : List GV) (w : World) (hr : RdV w AnyB v r) :
    Calls Tryz.prog 65 #[v, .func (.func 66) #[] #[]] w fun e w' => e = .returned (.bool (r.any fun x => !vsound x)) ∧ Ext w w' := by
  have h1 := idxVal_any v r w hr
  have h2 := badAt_any r
  have H2 := As.mk h2
  clear h2 hr
  generalize badAt r = b at *
  go_enter Tryz.func65, Tryz.ntmps65
  go_wp2_with (go_at_call 101; refine h1.mono ?_; rintro e w1 ⟨rfl, hE⟩)
  go_ret
  exact ⟨ret_bool (by rw [← H2.out]), hE⟩
theorem rSound_any (v : Value) (r : List GV) (w : World) (hr : RdV w AnyB v r) :
    Calls Tryz.prog 41 #[v] w fun e w' => e = .returned (.bool (rsound r)) ∧ Ext w w' := by
  have h1 := fun W (hE : Ext w W) => contVal_any v r W (hr.ext hE.below)
  obtain ⟨A, c, rfl, hc⟩ := hr.shape
  have hl := hr.len
  have hv : rsound r = (decide (r.length ≤ 1024) && !(r.any fun x => !vsound x)) := rfl
  rw [hv]
  clear hv hr
  generalize (r.any fun x => !vsound x) = b at *
  by_cases h : r.length ≤ 1024
  · have hz : (r.length : Int) ≤ 1024 := by omega
    go_enter Tryz.func41, Tryz.ntmps41
    go_wp2_with (go_at_call 65; refine (h1 _ (by repeat (first | (with_reducible exact Ext.refl _) | (with_reducible assumption) | (with_reducible apply Ext.alloc) | (with_reducible apply Ext.drewN) | (with_reducible apply Ext.drew) | (with_reducible apply Ext.grow) | (with_reducible refine Ext.trans ?_ (by with_reducible assumption))))).mono ?_; rintro e w1 ⟨rfl, hE⟩)
    go_ret
    exact ⟨ret_bool (by simp [h]), hE⟩
  · have hz : ¬ (r.length : Int) ≤ 1024 := by omega
    go_enter Tryz.func41, Tryz.ntmps41
    go_wp2_with fail
    go_ret
    exact ⟨ret_bool (by simp [h]), (by repeat (first | (with_reducible exact Ext.refl _) | (with_reducible assumption) | (with_reducible apply Ext.alloc) | (with_reducible apply Ext.drewN) | (with_reducible apply Ext.drew) | (with_reducible apply Ext.grow) | (with_reducible refine Ext.trans ?_ (by with_reducible assumption))))⟩
end Go.Proofs.YtmpndmjfdijamaaGreatDoor
