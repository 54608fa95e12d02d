/- The walks of a spine's Compact and settle. -/
import Derived.Test.YtmpndmjfdijamaaGreatDoorJoin
set_option linter.unusedVariables false
set_option linter.unusedSimpArgs false
namespace Go.Proofs.YtmpndmjfdijamaaGreatDoor
open Go.RowKit Go.Sort
theorem mergeL_nil (x : List GI) : mergeL x [] = x := by cases x <;> simp [mergeL]
theorem mergeL_length (x y : List GI) : (mergeL x y).length ≤ x.length + y.length := by
  fun_induction mergeL x y <;> simp_all <;> omega
theorem joinL_held (pre : List (List GI)) (x y : List GI) : heldL (joinL pre x y) ≤ heldL (pre ++ [x, y]) := by
  have h := mergeL_length x y
  unfold joinL
  split
  · rw [heldL_app]; omega
  · rw [heldL_app, heldL_app]; simp [heldL]; omega
theorem joinL_length (pre : List (List GI)) (x y : List GI) : (joinL pre x y).length ≤ pre.length + 1 := by
  unfold joinL
  split <;> simp
/-- Batches joined from the end on, some times. -/
inductive Joins (bs : List (List GI)) : List (List GI) → Prop where
  | refl : Joins bs bs
  | step (pre : List (List GI)) (x y : List GI) : Joins bs (pre ++ [x, y]) → Joins bs (joinL pre x y)
theorem Joins.held {bs bs' : List (List GI)} (h : Joins bs bs') : heldL bs' ≤ heldL bs := by
  induction h with
  | refl => exact Nat.le_refl _
  | step pre x y _ ih => exact Nat.le_trans (joinL_held pre x y) ih
theorem Joins.trans {a b c : List (List GI)} (h : Joins a b) (k : Joins b c) : Joins a c := by
  induction k with
  | refl => exact h
  | step pre x y _ ih => exact .step pre x y ih
theorem last_two {bs : List (List GI)} (h : 1 < bs.length) : ∃ pre x y, bs = pre ++ [x, y] := by
  refine ⟨bs.take (bs.length - 2), bs[bs.length - 2], bs[bs.length - 1], ?_⟩
  have h1 := List.take_append_drop (bs.length - 2) bs
  have h2 : bs.drop (bs.length - 2) = [bs[bs.length - 2], bs[bs.length - 1]] := by
    rw [List.drop_eq_getElem_cons (by omega), List.drop_eq_getElem_cons (by omega), List.drop_eq_nil_of_le (by omega)]
    congr 2
    congr 1
    omega
  rw [h2] at h1
  exact h1.symm
/-- What changes of batches alone leave. -/
def SpStep (base b : Nat) (cols : List Int) (live : Int) (bs : List (List GI)) (w : World) (bs' : List (List GI)) (w' : World) : Prop :=
  SpAt base b w' ⟨cols, bs', live⟩ ∧ Joins bs bs' ∧ Mut base b w w'
theorem SpStep.join {base b : Nat} {cols : List Int} {live : Int} {bs : List (List GI)} {w w1 : World} {pre : List (List GI)} {x y : List GI} (h : SpStep base b cols live bs w (pre ++ [x, y]) w1) (hbw : base ≤ w.heap.size) (hH : heldL bs ≤ 4294967296) :
    Calls Tryz.prog 40 #[.pointer (some ⟨b, 0, none⟩)] w1 fun r w' => r = .returned (.tuple #[]) ∧ SpStep base b cols live bs w (joinL pre x y) w' := by
  have h1 := h.2.1.held
  rw [heldL_app] at h1
  simp only [heldL] at h1
  exact (join_any base b cols pre x y live w1 (Nat.le_trans hbw h.2.2.size) h.1 (by omega)).mono fun r w' ⟨hr, h2, h3⟩ => ⟨hr, h2, .step _ _ _ h.2.1, h.2.2.trans h3⟩
theorem SpStep.ext {base b : Nat} {cols : List Int} {live : Int} {bs bs' : List (List GI)} {w w1 w2 : World} (h : SpStep base b cols live bs w bs' w1) (hb : Below w1.heap.size w1 w2) : SpStep base b cols live bs w bs' w2 := ⟨h.1.ext hb, h.2.1, h.2.2.ext hb⟩
theorem SpStep.compact {base b : Nat} {cols : List Int} {live : Int} {bs bs' : List (List GI)} {w w1 : World} (h : SpStep base b cols live bs w bs' w1) (hbw : base ≤ w.heap.size) (hH : heldL bs ≤ 4294967296)
    (hc : ∀ w1 bs', base ≤ w1.heap.size → SpAt base b w1 ⟨cols, bs', live⟩ → heldL bs' ≤ 4294967296 → Calls Tryz.prog 13 #[.pointer (some ⟨b, 0, none⟩)] w1 fun r w' => r = .returned (.tuple #[]) ∧ ∃ bs'', SpStep base b cols live bs' w1 bs'' w' ∧ bs''.length ≤ 1) :
    Calls Tryz.prog 13 #[.pointer (some ⟨b, 0, none⟩)] w1 fun r w' => r = .returned (.tuple #[]) ∧ ∃ bs'', SpStep base b cols live bs w bs'' w' ∧ bs''.length ≤ 1 :=
  (hc w1 bs' (Nat.le_trans hbw h.2.2.size) h.1 (Nat.le_trans h.2.1.held hH)).mono fun r w' ⟨hr, bs'', h1, h2⟩ => ⟨hr, bs'', ⟨h1.1, h.2.1.trans h1.2.1, h.2.2.trans h1.2.2⟩, h2⟩
theorem compact_any (base b : Nat) (cols : List Int) (live : Int) (bs : List (List GI)) (w : World) (hbw : base ≤ w.heap.size) (h : SpAt base b w ⟨cols, bs, live⟩) (hH : heldL bs ≤ 4294967296) :
    Calls Tryz.prog 13 #[.pointer (some ⟨b, 0, none⟩)] w fun r w' => r = .returned (.tuple #[]) ∧ ∃ bs', SpStep base b cols live bs w bs' w' ∧ bs'.length ≤ 1 := by
  have HS0 : As (SpStep base b cols live bs w bs w) := ⟨h, .refl, Mut.refl _ _ _⟩
  clear h
  go_enter Tryz.func13, Tryz.ntmps13
  go_wp2_with fail
  go_loopg [] bs.length (fun g wr => ∃ bs', bs'.length ≤ g ∧ As (SpStep base b cols live bs w bs' wr))
  case atStart => exact ⟨bs, Nat.le_refl _, HS0⟩
  case round =>
    obtain ⟨bs', hg, HS⟩ := hrel
    obtain ⟨u, bv, hb, _, hbs⟩ := HS.out.1.bat
    simp only at *
    obtain ⟨A, c, rfl, hc⟩ := hbs.shape
    have hl := hbs.len
    obtain ⟨c0, c1, c2, z0, z1, z2⟩ := spine_cells hb
    clear hb hbs
    by_cases hlt : 1 < bs'.length
    · have hltz : (1 : Int) < (bs'.length : Int) := by omega
      obtain ⟨pre, x, y, hbe⟩ := last_two hlt
      have hle : (joinL pre x y).length < bs'.length := by
        have := joinL_length pre x y
        rw [hbe, List.length_append]; simp; omega
      have HJ := As.mk ((hbe ▸ HS.out : SpStep base b cols live bs w (pre ++ [x, y]) wr).join hbw hH)
      clear hbe
      go_wp2_with (go_at_call 40; refine HJ.out.mono ?_; rintro r w2 ⟨rfl, hS⟩; have HS2 := As.mk hS; clear hS)
      go_roundg (joinL pre x y).length
      case measure => omega
      case rel => exact ⟨_, Nat.le_refl _, HS2⟩
    · have hltz : ¬ (1 : Int) < (bs'.length : Int) := by omega
      go_wp2
      go_end0
      exact ⟨rfl, bs', HS.out, by omega⟩
theorem compact_nil (w : World) : Calls Tryz.prog 13 #[.pointer none] w fun r w' => r = .returned (.tuple #[]) ∧ w = w' := by
  go_enter Tryz.func13, Tryz.ntmps13
  go_wp2_with fail
  go_loopg [] 0 (fun g wr => w = wr)
  case atStart => rfl
  case round =>
    obtain rfl := hrel
    go_wp2
    go_end0
    exact ⟨rfl, rfl⟩
set_option maxHeartbeats 4000000 in
set_option maxRecDepth 100000 in
theorem settle_any (base b : Nat) (cols : List Int) (live : Int) (bs : List (List GI)) (w : World) (hbw : base ≤ w.heap.size) (h : SpAt base b w ⟨cols, bs, live⟩) (hH : heldL bs ≤ 4294967296) (hL : -1099511627776 ≤ live ∧ live ≤ 1099511627776) :
    Calls Tryz.prog 37 #[.pointer (some ⟨b, 0, none⟩)] w fun r w' => r = .returned (.tuple #[]) ∧ ∃ bs', SpStep base b cols live bs w bs' w' ∧ (bs'.length ≤ 1 ∨ (heldL bs' : Int) ≤ 2 * live + 16) := by
  obtain ⟨u0, bv0, hb0, _, hbs0⟩ := h.bat
  simp only at hb0 hbs0
  obtain ⟨A0, c0', rfl, hc0⟩ := hbs0.shape
  obtain ⟨_, q1, _⟩ := spine_cells hb0
  have HS0 : As (SpStep base b cols live bs w bs w) := ⟨h, .refl, Mut.refl _ _ _⟩
  have hl0 := hbs0.len
  clear h hb0 hbs0
  go_enter Tryz.func37, Tryz.ntmps37
  go_wp2_with fail
  go_loopg [2] bs.length (fun g s2 wr => ∃ bs', bs'.length ≤ g ∧ s2 = .int .i64 bs'.length ∧ As (SpStep base b cols live bs w bs' wr))
  case atStart => exact ⟨bs, Nat.le_refl _, rfl, HS0⟩
  case round =>
    obtain ⟨bs', hg, rfl, HS⟩ := hrel
    obtain ⟨u, bv, hb, _, hbs⟩ := HS.out.1.bat
    simp only at *
    obtain ⟨A, c, rfl, hc⟩ := hbs.shape
    have hl := hbs.len
    obtain ⟨c0, c1, c2, z0, z1, z2⟩ := spine_cells hb
    clear hb
    by_cases hlt : 1 < bs'.length
    · have hltz : (1 : Int) < (bs'.length : Int) := by omega
      obtain ⟨pre, x, y, rfl⟩ := last_two hlt
      have hlen : (pre ++ [x, y]).length = pre.length + 2 := by simp
      rw [hlen] at hl hc hg hltz c1
      obtain ⟨b0, o, c', hv, hb0, cs, _, ⟨vx, rfl, hvx⟩, _, hcx⟩ := hbs.at (j := pre.length) (x := x) (by simp)
      obtain ⟨b0', o', c'', hv', hb0', cs, _, ⟨vy, rfl, hvy⟩, _, hcy⟩ := hbs.at (j := pre.length + 1) (x := y) (by rw [List.getElem?_append_right (by omega)]; simp)
      injection hv with hA _ hcc
      subst hA hcc
      injection hv' with hA _ hcc
      subst hcc
      injection hA with hA
      injection hA with h1 h2 _
      subst h1 h2
      have e0 := hcx 0 vx rfl
      have e1 := hcy 0 vy rfl
      simp only [Nat.mul_one, Nat.add_zero] at e0 e1
      obtain ⟨Ax, cx, rfl, _⟩ := hvx.shape
      obtain ⟨Ay, cy, rfl, _⟩ := hvy.shape
      have hxl := hvx.len
      have hyl := hvy.len
      clear hvx hvy hcx hcy hbs
      have k3 : IntKind.i64.wrap (pre.length : Int) = (pre.length : Int) := by rw [IntKind.wrap_i64]; omega
      have k4 : IntKind.i64.wrap ((pre.length : Int) + 1) = (pre.length : Int) + 1 := by rw [IntKind.wrap_i64]; omega
      have k5 : ((pre.length : Int) + 1).toNat = pre.length + 1 := by omega
      have k6 : (pre.length : Int) < (pre.length : Int) + 2 := by omega
      have k7 : (pre.length : Int) + 1 < (pre.length : Int) + 2 := by omega
      have k8 : 0 ≤ (pre.length : Int) + 1 := by omega
      have hd1 : decide ((1 : Int) < (pre.length : Int) + 2) = true := decide_eq_true (by omega)
      have k9 : IntKind.i64.wrap (2 * (y.length : Int)) = 2 * (y.length : Int) := by rw [IntKind.wrap_i64]; omega
      by_cases hle : x.length ≤ 2 * y.length
      · have hlez : decide ((x.length : Int) ≤ 2 * (y.length : Int)) = true := decide_eq_true (by omega)
        have HJ := fun W (hE : Ext wr W) => (HS.out.ext hE.below).join hbw hH
        have hjl := joinL_length pre x y
        go_wp2_with fail
        go_quiet (fail)
        go_wp2_with (go_at_call 40; refine (HJ _ (by repeat (first | (with_reducible exact Ext.refl _) | (with_reducible assumption) | (with_reducible apply Ext.alloc) | (with_reducible apply Ext.drewN) | (with_reducible apply Ext.drew) | (with_reducible apply Ext.grow) | (with_reducible refine Ext.trans ?_ (by with_reducible assumption))))).mono ?_; rintro r w2 ⟨rfl, hS⟩; have HS2 := As.mk hS; obtain ⟨u2, bv2, hb2, _, hbs2⟩ := hS.1.bat; simp only at hb2 hbs2; obtain ⟨A2, c2', rfl, _⟩ := hbs2.shape; obtain ⟨t0, t1, t2, _⟩ := spine_cells hb2; clear hS hb2 hbs2)
        go_roundg (joinL pre x y).length
        case measure => omega
        case rel => exact ⟨_, Nat.le_refl _, rfl, HS2⟩
      · have hlez : decide ((x.length : Int) ≤ 2 * (y.length : Int)) = false := decide_eq_false (by omega)
        go_wp2_with fail
        have HC := fun W (hE : Ext wr W) => (HS.out.ext hE.below).compact hbw hH (fun w1 bs' h1 h2 h3 => compact_any base b cols live bs' w1 h1 h2 h3)
        have HHh := fun W (hE : Ext wr W) => spHeld_any base b ⟨cols, (pre ++ [x, y]), live⟩ W (HS.out.1.ext hE.below) (Nat.le_trans HS.out.2.1.held hH)
        have hhl := Nat.le_trans HS.out.2.1.held hH
        have m1 : IntKind.i64.wrap (2 * live) = 2 * live := by rw [IntKind.wrap_i64]; omega
        have m2 : IntKind.i64.wrap (2 * live + 16) = 2 * live + 16 := by rw [IntKind.wrap_i64]; omega
        simp only at HHh
        have HDN : As ((heldL (pre ++ [x, y]) : Int) ≤ 2 * live + 16 ∨ 2 * live + 16 < (heldL (pre ++ [x, y]) : Int)) := ⟨by omega⟩
        generalize hhd : heldL (pre ++ [x, y]) = hd at *
        go_quiet (fail)
        go_wp2_with fail
        by_cases hcmp : 2 * live + 16 < (hd : Int)
        · have hdc := decide_eq_true hcmp
          go_quiet ((go_at_call 23; exact (HHh _ (by repeat (first | (with_reducible exact Ext.refl _) | (with_reducible assumption) | (with_reducible apply Ext.alloc) | (with_reducible apply Ext.drewN) | (with_reducible apply Ext.drew) | (with_reducible apply Ext.grow) | (with_reducible refine Ext.trans ?_ (by with_reducible assumption))))).mono fun _ _ ⟨he, hw⟩ => ⟨he, _, hw.symm⟩))
          go_wp2_with (go_at_call 13; refine (HC _ (by repeat (first | (with_reducible exact Ext.refl _) | (with_reducible assumption) | (with_reducible apply Ext.alloc) | (with_reducible apply Ext.drewN) | (with_reducible apply Ext.drew) | (with_reducible apply Ext.grow) | (with_reducible refine Ext.trans ?_ (by with_reducible assumption))))).mono ?_; rintro r w2 ⟨rfl, bs2, hS, hl2⟩; have HS2 := As.mk hS; clear hS)
          go_end0
          exact ⟨rfl, bs2, HS2.out, .inl hl2⟩
        · have hdc := decide_eq_false hcmp
          go_quiet ((go_at_call 23; exact (HHh _ (by repeat (first | (with_reducible exact Ext.refl _) | (with_reducible assumption) | (with_reducible apply Ext.alloc) | (with_reducible apply Ext.drewN) | (with_reducible apply Ext.drew) | (with_reducible apply Ext.grow) | (with_reducible refine Ext.trans ?_ (by with_reducible assumption))))).mono fun _ _ ⟨he, hw⟩ => ⟨he, _, hw.symm⟩))
          go_wp2_with fail
          go_end0
          exact ⟨rfl, _, HS.out.ext (Ext.below (by repeat (first | (with_reducible exact Ext.refl _) | (with_reducible assumption) | (with_reducible apply Ext.alloc) | (with_reducible apply Ext.drewN) | (with_reducible apply Ext.drew) | (with_reducible apply Ext.grow) | (with_reducible refine Ext.trans ?_ (by with_reducible assumption))))), .inr (by rw [hhd]; omega)⟩
    · have hltz : decide ((1 : Int) < (bs'.length : Int)) = false := decide_eq_false (by omega)
      clear hbs
      go_wp2_with fail
      have HC := fun W (hE : Ext wr W) => (HS.out.ext hE.below).compact hbw hH (fun w1 bs' h1 h2 h3 => compact_any base b cols live bs' w1 h1 h2 h3)
      have HHh := fun W (hE : Ext wr W) => spHeld_any base b ⟨cols, bs', live⟩ W (HS.out.1.ext hE.below) (Nat.le_trans HS.out.2.1.held hH)
      have hhl := Nat.le_trans HS.out.2.1.held hH
      have m1 : IntKind.i64.wrap (2 * live) = 2 * live := by rw [IntKind.wrap_i64]; omega
      have m2 : IntKind.i64.wrap (2 * live + 16) = 2 * live + 16 := by rw [IntKind.wrap_i64]; omega
      simp only at HHh
      have HDN : As ((heldL bs' : Int) ≤ 2 * live + 16 ∨ 2 * live + 16 < (heldL bs' : Int)) := ⟨by omega⟩
      generalize hhd : heldL bs' = hd at *
      go_quiet (fail)
      go_wp2_with fail
      by_cases hcmp : 2 * live + 16 < (hd : Int)
      · have hdc := decide_eq_true hcmp
        go_quiet ((go_at_call 23; exact (HHh _ (by repeat (first | (with_reducible exact Ext.refl _) | (with_reducible assumption) | (with_reducible apply Ext.alloc) | (with_reducible apply Ext.drewN) | (with_reducible apply Ext.drew) | (with_reducible apply Ext.grow) | (with_reducible refine Ext.trans ?_ (by with_reducible assumption))))).mono fun _ _ ⟨he, hw⟩ => ⟨he, _, hw.symm⟩))
        go_wp2_with (go_at_call 13; refine (HC _ (by repeat (first | (with_reducible exact Ext.refl _) | (with_reducible assumption) | (with_reducible apply Ext.alloc) | (with_reducible apply Ext.drewN) | (with_reducible apply Ext.drew) | (with_reducible apply Ext.grow) | (with_reducible refine Ext.trans ?_ (by with_reducible assumption))))).mono ?_; rintro r w2 ⟨rfl, bs2, hS, hl2⟩; have HS2 := As.mk hS; clear hS)
        go_end0
        exact ⟨rfl, bs2, HS2.out, .inl hl2⟩
      · have hdc := decide_eq_false hcmp
        go_quiet ((go_at_call 23; exact (HHh _ (by repeat (first | (with_reducible exact Ext.refl _) | (with_reducible assumption) | (with_reducible apply Ext.alloc) | (with_reducible apply Ext.drewN) | (with_reducible apply Ext.drew) | (with_reducible apply Ext.grow) | (with_reducible refine Ext.trans ?_ (by with_reducible assumption))))).mono fun _ _ ⟨he, hw⟩ => ⟨he, _, hw.symm⟩))
        go_wp2_with fail
        go_end0
        exact ⟨rfl, _, HS.out.ext (Ext.below (by repeat (first | (with_reducible exact Ext.refl _) | (with_reducible assumption) | (with_reducible apply Ext.alloc) | (with_reducible apply Ext.drewN) | (with_reducible apply Ext.drew) | (with_reducible apply Ext.grow) | (with_reducible refine Ext.trans ?_ (by with_reducible assumption))))), .inr (by rw [hhd]; omega)⟩
end Go.Proofs.YtmpndmjfdijamaaGreatDoor
