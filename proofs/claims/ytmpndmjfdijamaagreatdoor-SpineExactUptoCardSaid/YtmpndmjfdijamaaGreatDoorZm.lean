/- The walks that zset.Make calls: its test of entries, slices.Clone of entries, the sums of 128 bits. -/
import Derived.Test.YtmpndmjfdijamaaGreatDoorEntries
import Derived.Laws.Externs
set_option linter.unusedVariables false
set_option linter.unusedSimpArgs false
namespace Go.Proofs.YtmpndmjfdijamaaGreatDoor
open Go.RowKit Go.Sort
/-- An entry that no multiset takes. -/
def badE (x : GE) : Bool := !fair x.w || !rsound x.row
theorem zMake1_any (A : Option Addr) (c : Nat) (x : GE) (w : World) (hx : RdV w AnyB (.slice A x.row.length c) x.row) :
    Calls Tryz.prog 81 #[.agg #[.slice A x.row.length c, .int .i64 x.w]] w fun e w' => e = .returned (.bool (badE x)) ∧ Ext w w' := by
  have s1 := fun W (hE : Ext w W) => rSound_any _ x.row W (hx.ext hE.below)
  unfold badE
  clear hx
  cases hf : fair x.w
  · have f1 := fun W => isFair_any x.w W
    rw [hf] at f1
    go_enter Tryz.func81, Tryz.ntmps81
    go_wp2_with (first | (go_at_call 51; refine (f1 _).mono ?_; rintro e w1 ⟨rfl, rfl⟩))
    go_ret
    exact ⟨rfl, (by repeat (first | (with_reducible exact Ext.refl _) | (with_reducible assumption) | (with_reducible apply Ext.alloc) | (with_reducible apply Ext.drewN) | (with_reducible apply Ext.drew) | (with_reducible apply Ext.grow) | (with_reducible refine Ext.trans ?_ (by with_reducible assumption))))⟩
  · have f1 := fun W => isFair_any x.w W
    rw [hf] at f1
    generalize rsound x.row = b at *
    go_enter Tryz.func81, Tryz.ntmps81
    go_wp2_with (first | (go_at_call 51; refine (f1 _).mono ?_; rintro e w1 ⟨rfl, rfl⟩) | (go_at_call 41; refine (s1 _ (by repeat (first | (with_reducible exact Ext.refl _) | (with_reducible assumption) | (with_reducible apply Ext.alloc) | (with_reducible apply Ext.drewN) | (with_reducible apply Ext.drew) | (with_reducible apply Ext.grow) | (with_reducible refine Ext.trans ?_ (by with_reducible assumption))))).mono ?_; rintro e w2 ⟨rfl, hE⟩))
    go_ret
    exact ⟨ret_bool (by simp), (by repeat (first | (with_reducible exact Ext.refl _) | (with_reducible assumption) | (with_reducible apply Ext.alloc) | (with_reducible apply Ext.drewN) | (with_reducible apply Ext.drew) | (with_reducible apply Ext.grow) | (with_reducible refine Ext.trans ?_ (by with_reducible assumption))))⟩
/-- Where the first bad entry stands. -/
def badEAt : List GE → Int
  | [] => -1
  | x :: r => if badE x then 0 else (if badEAt r = -1 then -1 else badEAt r + 1)
theorem badEAt_nonneg (r : List GE) : -1 ≤ badEAt r := by
  induction r with
  | nil => simp [badEAt]
  | cons x r ih => unfold badEAt; (repeat' split) <;> omega
theorem badEAt_any (r : List GE) : decide (0 ≤ badEAt r) = r.any badE := by
  induction r with
  | nil => simp [badEAt]
  | cons x r ih =>
    have h1 := badEAt_nonneg r
    rw [List.any_cons, ← ih, badEAt]
    cases hx : badE x
    · rw [if_neg (by simp)]
      by_cases h2 : badEAt r = -1
      · rw [if_pos h2, h2]; rfl
      · rw [if_neg h2]
        have : 0 ≤ badEAt r := by omega
        have h3 : 0 ≤ badEAt r + 1 := by omega
        simp [this, h3]
    · simp
theorem badEAt_hit (r : List GE) (j : Nat) (x : GE) (hj : r[j]? = some x) (h : ∀ (i : Nat) (y : GE), i < j → r[i]? = some y → badE y = false) (hx : badE x = true) : badEAt r = j := by
  induction r generalizing j with
  | nil => simp at hj
  | cons a r ih =>
    cases j with
    | zero => simp at hj; subst hj; simp [badEAt, hx]
    | succ j =>
      have ha : badE a = false := h 0 a (by omega) rfl
      have := ih j (by simpa using hj) (fun i y hi hy => h (i + 1) y (by omega) (by simpa using hy))
      simp only [badEAt, ha, this]
      rw [if_neg (by simp), if_neg (by omega)]; omega
theorem badEAt_miss (r : List GE) (h : ∀ (i : Nat) (y : GE), r[i]? = some y → badE y = false) : badEAt r = -1 := by
  induction r with
  | nil => rfl
  | cons a r ih =>
    have ha : badE a = false := h 0 a rfl
    have := ih (fun i y hy => h (i + 1) y (by simpa using hy))
    simp [badEAt, ha, this]
set_option maxHeartbeats 1000000 in
theorem idxE_any (v : Value) (r : List GE) (w : World) (hr : RdZ w AnyB v r) :
    Calls Tryz.prog 110 #[v, .func (.func 81) #[] #[]] w fun e w' => e = .returned (.int .i64 (badEAt r)) ∧ Ext w w' := by
  obtain ⟨A, c, rfl, hc⟩ := hr.shape
  have hl := hr.len
  have HR := As.mk hr
  clear hr
  go_enter Tryz.func110, Tryz.ntmps110
  go_wp2
  go_loopg [5, 8] r.length (fun g _ s8 wr => ∃ k : Nat, k ≤ r.length ∧ r.length - k ≤ g ∧ s8 = .int .i64 k ∧ As (Ext w wr) ∧ As (∀ i y, i < k → r[i]? = some y → badE y = false))
  case atStart => exact ⟨0, Nat.zero_le _, by omega, rfl, ⟨Ext.refl _⟩, ⟨fun i y hi => absurd hi (Nat.not_lt_zero _)⟩⟩
  case round =>
    obtain ⟨k, hk, hg, rfl, HE, HA⟩ := hrel
    by_cases hlt : k < r.length
    · have hltz : (k : Int) < (r.length : Int) := by omega
      obtain ⟨x, hx⟩ : ∃ x, r[k]? = some x := ⟨_, List.getElem?_eq_getElem hlt⟩
      obtain ⟨b, o, c', A1, d1, hv, hb, _, hxr, c0, c1⟩ := RdZ.ent (HR.out.ext HE.out.below) hx
      injection hv with hA _ hcc
      subst hA
      have s1 := fun W (hE : Ext wr W) => zMake1_any A1 d1 x W (hxr.ext hE.below)
      have HX := As.mk hx
      clear hx hcc hxr
      cases hs : badE x
      · rw [hs] at s1
        have HS := As.mk hs
        clear hs
        go_wp2_with (go_at_call 81; refine (s1 _ (by repeat (first | (with_reducible exact Ext.refl _) | (with_reducible assumption) | (with_reducible apply Ext.alloc) | (with_reducible apply Ext.drewN) | (with_reducible apply Ext.drew) | (with_reducible apply Ext.grow) | (with_reducible refine Ext.trans ?_ (by with_reducible assumption))))).mono ?_; rintro e w1 ⟨rfl, hE⟩)
        go_roundg (r.length - (k + 1))
        case measure => omega
        case rel =>
          have hE1 := HE.out
          refine ⟨k + 1, by omega, by omega, by go_num, ⟨(by repeat (first | (with_reducible exact Ext.refl _) | (with_reducible assumption) | (with_reducible apply Ext.alloc) | (with_reducible apply Ext.drewN) | (with_reducible apply Ext.drew) | (with_reducible apply Ext.grow) | (with_reducible refine Ext.trans ?_ (by with_reducible assumption))))⟩, ⟨fun i y hi hy => ?_⟩⟩
          by_cases e : i = k
          · subst e; rw [HX.out] at hy; injection hy with hy; subst hy; exact HS.out
          · exact HA.out i y (by omega) hy
      · rw [hs] at s1
        have HS := As.mk hs
        clear hs
        go_wp2_with (go_at_call 81; refine (s1 _ (by repeat (first | (with_reducible exact Ext.refl _) | (with_reducible assumption) | (with_reducible apply Ext.alloc) | (with_reducible apply Ext.drewN) | (with_reducible apply Ext.drew) | (with_reducible apply Ext.grow) | (with_reducible refine Ext.trans ?_ (by with_reducible assumption))))).mono ?_; rintro e w1 ⟨rfl, hE⟩)
        go_ret
        have hE1 := HE.out
        exact ⟨ret_int (badEAt_hit r k x HX.out HA.out HS.out).symm, (by repeat (first | (with_reducible exact Ext.refl _) | (with_reducible assumption) | (with_reducible apply Ext.alloc) | (with_reducible apply Ext.drewN) | (with_reducible apply Ext.drew) | (with_reducible apply Ext.grow) | (with_reducible refine Ext.trans ?_ (by with_reducible assumption))))⟩
    · have hltz : ¬ (k : Int) < (r.length : Int) := by omega
      go_wp2
      go_ret
      exact ⟨ret_int (badEAt_miss r fun i y hy => HA.out i y (by have := (List.getElem?_eq_some_iff.1 hy).1; omega) hy).symm, HE.out⟩
theorem contE_any (v : Value) (r : List GE) (w : World) (hr : RdZ w AnyB v r) :
    Calls Tryz.prog 80 #[v, .func (.func 81) #[] #[]] w fun e w' => e = .returned (.bool (r.any badE)) ∧ Ext w w' := by
  have h1 := idxE_any v r w hr
  have H2 := As.mk (badEAt_any r)
  clear hr
  generalize badEAt r = b at *
  go_enter Tryz.func80, Tryz.ntmps80
  go_wp2_with (go_at_call 110; refine h1.mono ?_; rintro e w1 ⟨rfl, hE⟩)
  go_ret
  exact ⟨ret_bool (by rw [← H2.out]), hE⟩
theorem eqn_ents (a : Option Addr) (n c : Nat) (w : World) : (binOp .eql 34 (.slice a n c) (.slice none 0 0)).run Tryz.prog w = .ok (.bool a.isNone) w := Lib.run_eql_slice_nil w _ _ a n c _ _ Tryz.underlying34
/-- What was there before. -/
def Old (n : Nat) : Blk := fun k _ => k < n
theorem Stays.old (w : World) (ok : Blk) : Stays w w ok (Old w.heap.size) := fun k t cells fr ho hh => ⟨⟨(Array.getElem?_eq_some_iff.1 hh).1, ho.2.imp id fun _ => (Array.getElem?_eq_some_iff.1 hh).1⟩, hh⟩
theorem cloneE_any (v : Value) (r : List GE) (w : World) (hr : RdZ w AnyB v r) :
    Calls Tryz.prog 82 #[v] w fun e w' => ∃ u, e = .returned u ∧ OwnL 2 (EE w' (Old w.heap.size)) 47 w' w.heap.size u r ∧ Below w.heap.size w w' := by
  obtain ⟨A, c, rfl, hc⟩ := hr.shape
  have hl := hr.len
  have he := fun W => eqn_ents A r.length c W
  have HR : As (RdL 2 (EE w (Old w.heap.size)) w AnyB (.slice A r.length c) r) := ⟨hr.move (fun _ _ e => e.mv (Stays.old w _)) (Stays.any _ _)⟩
  clear hr
  cases A with
  | none =>
    go_enter Tryz.func82, Tryz.ntmps82
    go_wp2_with fail
    go_ret
    have h0 : r = [] := by
      rcases Nat.eq_zero_or_pos r.length with h0 | h0
      · exact List.eq_nil_of_length_eq_zero h0
      · obtain ⟨ad, cs, h, _⟩ := HR.out.flat h0
        cases h
    subst h0
    exact ⟨_, rfl, OwnL.nil _ _ _ _ _, Below.refl _ _⟩
  | some ad =>
    have HB := As.mk ((Below.refl w.heap.size w).alloc (Nat.le_refl _) (.cells #[] 47))
    have HO := As.mk (OwnL.made 2 (EE (w.alloc (.cells #[] 47)) (Old w.heap.size)) 47 w w.heap.size #[] 0 (Nat.le_refl _) (by simp [maxLen]) rfl)
    have HR1 := As.mk (HR.out.move (fun _ _ e => e.mv (Stays.below HB.out (Old w.heap.size))) (Stays.below HB.out AnyB))
    clear HR
    go_enter Tryz.func82, Tryz.ntmps82
    go_wp2_with (at_builtin; refine OwnL.appends w.heap.size rfl _ _ 34 47 _ 2 32 rfl Tryz.underlying34 info_entry rfl (by decide) (by decide) _ [] r _ _ _ rfl rfl HR1.out HO.out HB.out (by simp) (by simpa using hl) ?_; intro v1 w1 hown hb hg hat)
    go_ret
    refine ⟨_, rfl, OwnL.imp (by simpa using hown) (fun x cs h => EE.mv h ?_), hb⟩
    exact Stays.grown hg _ fun g t cells fr hgb hh ho => by
      have h1 := (HO.out.lt g hgb).1
      have h2 : g < w.heap.size := ho
      omega
/-! ### Sums of 128 bits -/
/-- total: s in two parts. -/
def tot (s : Int) : Value := .agg #[.int .i64 (s / 18446744073709551616), .int .u64 (s % 18446744073709551616)]
theorem add64_run (x y : Int) (hx : 0 ≤ x) (hy : 0 ≤ y) (w : World) : (callFunc 112 #[.int .u64 x, .int .u64 y, .int .u64 0]).run Tryz.prog w = .ok (.value (.tuple #[.int .u64 ((x + y) % 18446744073709551616), .int .u64 ((x + y) / 18446744073709551616)])) w := by
  rw [run_callFunc_extern Tryz.func112 (by kernel_rfl) (by kernel_rfl) (by kernel_rfl) (e := add64Entry) (by kernel_rfl)]
  have h := run_add64 (P := Tryz.prog) x y 0 hx hy (by decide) (by decide) w
  rw [Int.add_zero] at h
  simp only [Sem.run_map, h]
  rfl
theorem totAdd_any (s n : Int) (w : World) (hs : -79228162514264337593543950336 ≤ s ∧ s ≤ 79228162514264337593543950336) (hn : i64 n) :
    Calls Tryz.prog 84 #[tot s, .int .i64 n] w fun e w' => e = .returned (tot (s + n)) ∧ Ext w w' := by
  unfold i64 at hn
  have hw : IntKind.u64.wrap n = n % 18446744073709551616 := by simp [IntKind.wrap, IntKind.bits, IntKind.signed]
  have h1 := fun W => add64_run (s % 18446744073709551616) (n % 18446744073709551616) (by omega) (by omega) W
  obtain ⟨lo, hlo⟩ : ∃ lo, lo = (s % 18446744073709551616 + n % 18446744073709551616) % 18446744073709551616 := ⟨_, rfl⟩
  obtain ⟨ca, hca⟩ : ∃ ca, ca = (s % 18446744073709551616 + n % 18446744073709551616) / 18446744073709551616 := ⟨_, rfl⟩
  have e1 : (s + n) / 18446744073709551616 = s / 18446744073709551616 + n / 9223372036854775808 + ca := by omega
  have e2 : (s + n) % 18446744073709551616 = lo := by omega
  have HE : As (tot (s + n) = .agg #[.int .i64 (s / 18446744073709551616 + n / 9223372036854775808 + ca), .int .u64 lo]) := ⟨by unfold tot; rw [e1, e2]⟩
  have hca1 : 0 ≤ ca ∧ ca ≤ 1 := by omega
  have hhi : -4294967296 ≤ s / 18446744073709551616 ∧ s / 18446744073709551616 ≤ 4294967296 := by omega
  have hsg : -1 ≤ n / 9223372036854775808 ∧ n / 9223372036854775808 ≤ 0 := by omega
  rw [← hlo, ← hca] at h1
  clear e1 e2 hlo hca
  generalize tot (s + n) = q at *
  unfold tot
  go_enter Tryz.func84, Tryz.ntmps84
  go_wp2_with fail
  (try simp only [Exit.inBlock, Exit.then])
  refine bodyPost_ret (results_cell_row rfl _ _ (w.heap.size + 1) 122 _ (0, 0) _ rfl (heap_alloc2_new w _ _) Tryz.underlying122 rfl (by kernel_rfl)) rfl ?_
  exact ⟨by rw [HE.out], (by repeat (first | (with_reducible exact Ext.refl _) | (with_reducible assumption) | (with_reducible apply Ext.alloc) | (with_reducible apply Ext.drewN) | (with_reducible apply Ext.drew) | (with_reducible apply Ext.grow) | (with_reducible refine Ext.trans ?_ (by with_reducible assumption))))⟩
/-- The sum as a weight: whether it is fair. -/
theorem totWeight_any (s : Int) (w : World) (hs : -79228162514264337593543950336 ≤ s ∧ s ≤ 79228162514264337593543950336) :
    Calls Tryz.prog 85 #[tot s] w fun e w' => ∃ x, e = .returned (.tuple #[.int .i64 x, .bool (fair s)]) ∧ (fair s = true → x = s) ∧ Ext w w' := by
  obtain ⟨lo, hlo⟩ : ∃ lo, lo = s % 18446744073709551616 := ⟨_, rfl⟩
  obtain ⟨hi, hhi⟩ : ∃ hi, hi = s / 18446744073709551616 := ⟨_, rfl⟩
  obtain ⟨x, hx⟩ : ∃ x, x = IntKind.i64.wrap lo := ⟨_, rfl⟩
  have hx2 : x = if lo < 9223372036854775808 then lo else lo - 18446744073709551616 := by rw [hx, IntKind.wrap_i64]; split <;> omega
  have hT : tot s = .agg #[.int .i64 hi, .int .u64 lo] := by rw [hlo, hhi]; rfl
  have hxs : (hi == x / 9223372036854775808) = decide (s = x) := by
    rw [Bool.eq_iff_iff, beq_iff_eq, decide_eq_true_eq]
    split at hx2 <;> omega
  have HX : As (fair s = (decide (s = x) && fair x)) := ⟨by
    by_cases e : s = x
    · rw [← e]; simp
    · have h1 : fair s = false := by
        unfold fair
        simp only [Bool.and_eq_false_iff, decide_eq_false_iff_not]
        split at hx2 <;> omega
      rw [h1, decide_eq_false e]; rfl⟩
  have HX2 : As (fair s = true → x = s) := ⟨fun h => by
    rw [HX.out, Bool.and_eq_true, decide_eq_true_eq] at h
    exact h.1.symm⟩
  have hxr : -1 ≤ x / 9223372036854775808 ∧ x / 9223372036854775808 ≤ 0 := by split at hx2 <;> omega
  rw [hT]
  have hx' := hx.symm
  clear hT hlo hhi hx hx2 hs
  have f1 := fun W => isFair_any x W
  generalize fair s = fs at *
  cases he : decide (s = x)
  · rw [he] at hxs
    go_enter Tryz.func85, Tryz.ntmps85
    go_wp2_with (go_at_call 51; refine (f1 _).mono ?_; rintro e w1 ⟨rfl, rfl⟩)
    go_ret2
    exact ⟨x, by rw [HX.out, he]; rfl, HX2.out, (by repeat (first | (with_reducible exact Ext.refl _) | (with_reducible assumption) | (with_reducible apply Ext.alloc) | (with_reducible apply Ext.drewN) | (with_reducible apply Ext.drew) | (with_reducible apply Ext.grow) | (with_reducible refine Ext.trans ?_ (by with_reducible assumption))))⟩
  · rw [he] at hxs
    go_enter Tryz.func85, Tryz.ntmps85
    go_wp2_with (go_at_call 51; refine (f1 _).mono ?_; rintro e w1 ⟨rfl, rfl⟩)
    go_ret2
    exact ⟨x, by rw [HX.out, he]; simp, HX2.out, (by repeat (first | (with_reducible exact Ext.refl _) | (with_reducible assumption) | (with_reducible apply Ext.alloc) | (with_reducible apply Ext.drewN) | (with_reducible apply Ext.drew) | (with_reducible apply Ext.grow) | (with_reducible refine Ext.trans ?_ (by with_reducible assumption))))⟩
end Go.Proofs.YtmpndmjfdijamaaGreatDoor
