/- The walks of slices.Clone, slices.ContainsFunc and row.Pick as spine.New and itemOf use them. -/
import Derived.Test.YtmpndmjfdijamaaGreatDoorRow
import Derived.Test.YtmpndmjfdijamaaGreatDoorOwn
set_option linter.unusedVariables false
set_option linter.unusedSimpArgs false
namespace Go.Proofs.YtmpndmjfdijamaaGreatDoor
open Go.RowKit Go.Sort
/-- A whole number's cell. -/
def EI (n : Int) (cs : List Value) : Prop := cs = [.int .i64 n] ∧ i64 n
abbrev RdI (w : World) (ok : Blk) (v : Value) (r : List Int) : Prop := RdL 1 EI w ok v r
theorem RdI.mv {w w' : World} {ok ok' : Blk} {v : Value} {r : List Int} (h : RdI w ok v r) (hs : Stays w w' ok ok') : RdI w' ok' v r := RdL.move h (fun _ _ e => e) hs
theorem RdI.ext {w w' : World} {ok : Blk} {v : Value} {r : List Int} (h : RdI w ok v r) (hb : Below w.heap.size w w') : RdI w' ok v r := h.mv (Stays.below hb ok)
theorem RdI.val {w : World} {ok : Blk} {v : Value} {r : List Int} (h : RdI w ok v r) {j : Nat} {x : Int} (hj : r[j]? = some x) : ∃ b o c, v = .slice (some ⟨b, o, none⟩) r.length c ∧ b < w.heap.size ∧ i64 x ∧ w.cell? ⟨b, o + j, none⟩ = some (.int .i64 x) := by
  obtain ⟨b, o, c, hv, hb, cs, _, ⟨rfl, hx⟩, _, hc⟩ := h.at hj
  exact ⟨b, o, c, hv, hb, hx, by simpa using hc 0 _ rfl⟩
theorem info_val : (Tryz.prog.info? 55).map (fun i => (i.zero, i.size, i.bytes)) = some (some (.agg #[.int .i64 0, .int .i64 0, .int .u64 0, .string ⟨#[]⟩]), 4, 40) := by kernel_rfl
theorem info_int : (Tryz.prog.info? 3).map (fun i => (i.zero, i.size, i.bytes)) = some (some (.int .i64 0), 1, 8) := by kernel_rfl
theorem eqn_row (a : Option Addr) (n c : Nat) (w : World) : (binOp .eql 25 (.slice a n c) (.slice none 0 0)).run Tryz.prog w = .ok (.bool a.isNone) w := Lib.run_eql_slice_nil w _ _ a n c _ _ Tryz.underlying25
theorem eqn_ints (a : Option Addr) (n c : Nat) (w : World) : (binOp .eql 22 (.slice a n c) (.slice none 0 0)).run Tryz.prog w = .ok (.bool a.isNone) w := Lib.run_eql_slice_nil w _ _ a n c _ _ Tryz.underlying22
theorem cloneRow_any (v : Value) (r : List GV) (w : World) (hr : RdV w AnyB v r) :
    Calls Tryz.prog 55 #[v] w fun e w' => ∃ u, e = .returned u ∧ RdV w' (Fresh w.heap.size [55]) u r ∧ Below w.heap.size w w' := by
  obtain ⟨A, c, rfl, hc⟩ := hr.shape
  have hl := hr.len
  have he := fun W => eqn_row A r.length c W
  have HR := As.mk hr
  clear hr
  cases A with
  | none =>
    go_enter Tryz.func55, Tryz.ntmps55
    go_wp2_with fail
    go_ret
    have h0 : r = [] := by
      rcases Nat.eq_zero_or_pos r.length with h0 | h0
      · exact List.eq_nil_of_length_eq_zero h0
      · obtain ⟨ad, cs, h, _⟩ := HR.out.flat h0
        cases h
    subst h0
    exact ⟨_, rfl, RdL.nil _ _ _ _, Below.refl _ _⟩
  | some ad =>
    have HO := As.mk (OwnL.made 4 EV 55 w w.heap.size #[] 0 (Nat.le_refl _) (by simp [maxLen]) rfl)
    have HB := As.mk ((Below.refl w.heap.size w).alloc (Nat.le_refl _) (.cells #[] 55))
    have HR1 := As.mk (HR.out.ext HB.out)
    clear HR
    go_enter Tryz.func55, Tryz.ntmps55
    go_wp2_with (at_builtin; refine OwnL.appends w.heap.size rfl _ _ 25 55 _ 4 40 rfl Tryz.underlying25 info_val rfl (by decide) (by decide) _ [] r _ _ _ rfl rfl HR1.out HO.out HB.out (by simp) (by simpa using hl) ?_; intro v1 w1 hown hb hg hat)
    go_ret
    exact ⟨_, rfl, OwnL.rd (by simpa using hown) (fun k hk => ⟨hk, by simp⟩), hb⟩
theorem cloneInt_any (v : Value) (r : List Int) (w : World) (hr : RdI w AnyB v r) :
    Calls Tryz.prog 32 #[v] w fun e w' => ∃ u, e = .returned u ∧ RdI w' (Fresh w.heap.size [3]) u r ∧ Below w.heap.size w w' := by
  obtain ⟨A, c, rfl, hc⟩ := hr.shape
  have hl := hr.len
  have he := fun W => eqn_ints A r.length c W
  have HR := As.mk hr
  clear hr
  cases A with
  | none =>
    go_enter Tryz.func32, Tryz.ntmps32
    go_wp2_with fail
    go_ret
    have h0 : r = [] := by
      rcases Nat.eq_zero_or_pos r.length with h0 | h0
      · exact List.eq_nil_of_length_eq_zero h0
      · obtain ⟨ad, cs, h, _⟩ := HR.out.flat h0
        cases h
    subst h0
    exact ⟨_, rfl, RdL.nil _ _ _ _, Below.refl _ _⟩
  | some ad =>
    have HO := As.mk (OwnL.made 1 EI 3 w w.heap.size #[] 0 (Nat.le_refl _) (by simp [maxLen]) rfl)
    have HB := As.mk ((Below.refl w.heap.size w).alloc (Nat.le_refl _) (.cells #[] 3))
    have HR1 := As.mk (HR.out.ext HB.out)
    clear HR
    go_enter Tryz.func32, Tryz.ntmps32
    go_wp2_with (at_builtin; refine OwnL.appends w.heap.size rfl _ _ 22 3 _ 1 8 rfl Tryz.underlying22 info_int rfl (by decide) (by decide) _ [] r _ _ _ rfl rfl HR1.out HO.out HB.out (by simp) (by simpa using hl) ?_; intro v1 w1 hown hb hg hat)
    go_ret
    exact ⟨_, rfl, OwnL.rd (by simpa using hown) (fun k hk => ⟨hk, by simp⟩), hb⟩
/-- No column's number. -/
def badCol (i : Int) : Bool := decide (i < 0) || decide (1024 ≤ i)
theorem spNew1_any (i : Int) (w : World) : Calls Tryz.prog 30 #[.int .i64 i] w fun e w' => e = .returned (.bool (badCol i)) ∧ w = w' := by
  by_cases h : i < 0
  · go_enter Tryz.func30, Tryz.ntmps30
    go_wp2_with fail
    go_ret
    exact ⟨ret_bool (by simp [badCol, h]), rfl⟩
  · have hb : decide (i < 0) = false := by simpa using h
    go_enter Tryz.func30, Tryz.ntmps30
    go_wp2_with fail
    go_ret
    exact ⟨ret_bool (by simp [badCol, hb]), rfl⟩
/-- Where the first bad number stands. -/
def badIx : List Int → Int
  | [] => -1
  | x :: r => if badCol x then 0 else (if badIx r = -1 then -1 else badIx r + 1)
theorem badIx_nonneg (r : List Int) : -1 ≤ badIx r := by
  induction r with
  | nil => simp [badIx]
  | cons x r ih => unfold badIx; (repeat' split) <;> omega
theorem badIx_any (r : List Int) : decide (0 ≤ badIx r) = r.any badCol := by
  induction r with
  | nil => simp [badIx]
  | cons x r ih =>
    have h1 := badIx_nonneg r
    rw [List.any_cons, ← ih, badIx]
    by_cases hx : badCol x = true
    · rw [if_pos hx, hx]; simp
    · rw [if_neg hx]
      have hx' : badCol x = false := by simpa using hx
      rw [hx']
      by_cases h2 : badIx r = -1
      · rw [if_pos h2, h2]; rfl
      · rw [if_neg h2]
        have : 0 ≤ badIx r := by omega
        have h3 : 0 ≤ badIx r + 1 := by omega
        simp [this, h3]
theorem badIx_hit (r : List Int) (j : Nat) (x : Int) (hj : r[j]? = some x) (h : ∀ (i : Nat) (y : Int), i < j → r[i]? = some y → badCol y = false) (hx : badCol x = true) : badIx r = j := by
  induction r generalizing j with
  | nil => simp at hj
  | cons a r ih =>
    cases j with
    | zero => simp at hj; subst hj; simp [badIx, hx]
    | succ j =>
      have ha : badCol a = false := h 0 a (by omega) rfl
      have := ih j (by simpa using hj) (fun i y hi hy => h (i + 1) y (by omega) (by simpa using hy))
      simp only [badIx, ha, this]
      rw [if_neg (by simp), if_neg (by omega)]; omega
theorem badIx_miss (r : List Int) (h : ∀ (i : Nat) (y : Int), r[i]? = some y → badCol y = false) : badIx r = -1 := by
  induction r with
  | nil => rfl
  | cons a r ih =>
    have ha : badCol a = false := h 0 a rfl
    have := ih (fun i y hy => h (i + 1) y (by simpa using hy))
    simp [badIx, ha, this]
set_option maxHeartbeats 1000000 in
theorem idxInt_any (v : Value) (r : List Int) (w : World) (hr : RdI w AnyB v r) :
    Calls Tryz.prog 56 #[v, .func (.func 30) #[] #[]] w fun e w' => e = .returned (.int .i64 (badIx r)) ∧ w = w' := by
  obtain ⟨A, c, rfl, hc⟩ := hr.shape
  have hl := hr.len
  have HR := As.mk hr
  clear hr
  go_enter Tryz.func56, Tryz.ntmps56
  go_wp2
  go_loopg [5, 8] r.length (fun g _ s8 wr => ∃ k : Nat, k ≤ r.length ∧ r.length - k ≤ g ∧ s8 = .int .i64 k ∧ wr = w ∧ As (∀ i y, i < k → r[i]? = some y → badCol y = false))
  case atStart => exact ⟨0, Nat.zero_le _, by omega, rfl, rfl, ⟨fun i y hi => absurd hi (Nat.not_lt_zero _)⟩⟩
  case round =>
    obtain ⟨k, hk, hg, rfl, rfl, HA⟩ := hrel
    by_cases hlt : k < r.length
    · have hltz : (k : Int) < (r.length : Int) := by omega
      obtain ⟨x, hx⟩ : ∃ x, r[k]? = some x := ⟨_, List.getElem?_eq_getElem hlt⟩
      obtain ⟨b, o, c', hv, hb, hok, c0⟩ := RdI.val HR.out hx
      injection hv with hA _ hcc
      subst hA
      have s1 := fun W => spNew1_any x W
      have HX := As.mk hx
      clear hx hcc
      cases hs : badCol x
      · rw [hs] at s1
        have HS := As.mk hs
        clear hs
        go_wp2_with (go_at_call 30; refine (s1 _).mono ?_; rintro e w1 ⟨rfl, rfl⟩)
        go_roundg (r.length - (k + 1))
        case measure => omega
        case rel =>
          refine ⟨k + 1, by omega, by omega, by go_num, rfl, ⟨fun i y hi hy => ?_⟩⟩
          by_cases e : i = k
          · subst e; rw [HX.out] at hy; injection hy with hy; subst hy; exact HS.out
          · exact HA.out i y (by omega) hy
      · rw [hs] at s1
        have HS := As.mk hs
        clear hs
        go_wp2_with (go_at_call 30; refine (s1 _).mono ?_; rintro e w1 ⟨rfl, rfl⟩)
        go_ret
        exact ⟨ret_int (badIx_hit r k x HX.out HA.out HS.out).symm, rfl⟩
    · have hltz : ¬ (k : Int) < (r.length : Int) := by omega
      go_wp2
      go_ret
      exact ⟨ret_int (badIx_miss r fun i y hy => HA.out i y (by have := (List.getElem?_eq_some_iff.1 hy).1; omega) hy).symm, rfl⟩
theorem contInt_any (v : Value) (r : List Int) (w : World) (hr : RdI w AnyB v r) :
    Calls Tryz.prog 31 #[v, .func (.func 30) #[] #[]] w fun e w' => e = .returned (.bool (r.any badCol)) ∧ w = w' := by
  have h1 := idxInt_any v r w hr
  have h2 := badIx_any r
  have H2 := As.mk h2
  clear h2 hr
  generalize badIx r = b at *
  go_enter Tryz.func31, Tryz.ntmps31
  go_wp2_with (go_at_call 56; refine h1.mono ?_; rintro e w1 ⟨rfl, rfl⟩)
  go_ret
  exact ⟨ret_bool (by rw [← H2.out]), rfl⟩
/-- Whether spine.New takes these columns. -/
def colsOk (r : List Int) : Bool := decide (r.length ≤ 1024) && !(r.any badCol)
theorem spNew_bad (v : Value) (r : List Int) (w : World) (hr : RdI w AnyB v r) (h : colsOk r = false) :
    Calls Tryz.prog 9 #[v] w fun e w' => e = .returned (.tuple #[.pointer none, .int .i64 1]) ∧ Below w.heap.size w w' := by
  have h1 := contInt_any v r w hr
  obtain ⟨A, c, rfl, hc⟩ := hr.shape
  clear hr
  unfold colsOk at h
  by_cases hl : r.length ≤ 1024
  · have hz : (r.length : Int) ≤ 1024 := by omega
    simp only [hl, decide_true, Bool.true_and, Bool.not_eq_false'] at h
    rw [h] at h1
    clear h
    go_enter Tryz.func9, Tryz.ntmps9
    go_wp2_with (go_at_call 31; refine h1.mono ?_; rintro e w1 ⟨rfl, rfl⟩)
    go_ret2
    exact ⟨rfl, Below.refl _ _⟩
  · have hz : 1024 < (r.length : Int) := by omega
    clear h h1
    go_enter Tryz.func9, Tryz.ntmps9
    go_wp2_with fail
    go_ret2
    exact ⟨rfl, Below.refl _ _⟩
/-- A new spine. -/
def NewAt (base : Nat) (w : World) (b : Nat) (r : List Int) : Prop :=
  base ≤ b ∧ ∃ u, w.heap[b]? = some (.cells #[u, .slice none 0 0, .int .i64 0] 69 (0, 0)) ∧ RdI w (Fresh base [3]) u r
theorem spNew_good (v : Value) (r : List Int) (w : World) (hr : RdI w AnyB v r) (h : colsOk r = true) :
    Calls Tryz.prog 9 #[v] w fun e w' => ∃ b, e = .returned (.tuple #[.pointer (some ⟨b, 0, none⟩), .int .i64 0]) ∧ NewAt w.heap.size w' b r ∧ Below w.heap.size w w' := by
  have h1 := contInt_any v r w hr
  have h2 := fun W (hE : Below w.heap.size w W) => cloneInt_any v r W (hr.ext hE)
  obtain ⟨A, c, rfl, hc⟩ := hr.shape
  clear hr
  unfold colsOk at h
  have hl : r.length ≤ 1024 := by
    by_cases hl : r.length ≤ 1024
    · exact hl
    · simp [hl] at h
  have hz : ¬ 1024 < (r.length : Int) := by omega
  simp only [hl, decide_true, Bool.true_and, Bool.not_eq_true'] at h
  rw [h] at h1
  clear h
  go_enter Tryz.func9, Tryz.ntmps9
  go_wp2_with fail
  refine h1.mono ?_
  rintro e w1 ⟨rfl, rfl⟩
  go_wp2_with fail
  refine (h2 _ (Below.refl _ _)).mono ?_
  rintro e w2 ⟨u, rfl, hu, hb⟩
  obtain ⟨A2, c2, rfl, hc2⟩ := hu.shape
  have HU := As.mk hu
  clear hu
  go_wp2_with fail
  go_ret2
  have hb2 := hb.alloc hb.size (.cells #[.slice A2 r.length c2, .slice none 0 0, .int .i64 0] 69)
  exact ⟨_, rfl, ⟨hb.size, _, heap_alloc_new _ _, HU.out.mv (Stays.below ((Below.refl _ _).alloc (Nat.le_refl _) _) _)⟩, hb2⟩
end Go.Proofs.YtmpndmjfdijamaaGreatDoor
