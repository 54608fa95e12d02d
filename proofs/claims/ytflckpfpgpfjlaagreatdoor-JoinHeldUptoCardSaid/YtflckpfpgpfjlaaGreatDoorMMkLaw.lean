/- The walks that zset.Make calls: its test of entries, slices.Clone of entries, the sums of 128 bits. The plain law of zset.Make: groups of one row, summed; what Make answers. -/
import Derived.Test.YtflckpfpgpfjlaaGreatDoorMGet
import Derived.Laws.Externs
import Derived.Test.YtflckpfpgpfjlaaGreatDoorMTold
set_option linter.unusedVariables false
set_option linter.unusedSimpArgs false
section
namespace Go.Proofs.YtflckpfpgpfjlaaGreatDoor
open Go.RowKit Go.Sort
/-- An entry that no multiset takes. -/
def badE (x : GE) : Bool := !fair x.w || !rsound x.row
theorem zMake1_any (A : Option Addr) (c : Nat) (x : GE) (w : World) (hx : RdV w AnyB (.slice A x.row.length c) x.row) :
    Calls Tryz.prog 52 #[.agg #[.slice A x.row.length c, .int .i64 x.w]] w fun e w' => e = .returned (.bool (badE x)) ∧ Ext w w' := by
  have s1 := fun W (hE : Ext w W) => rSound_any _ x.row W (hx.ext hE.below)
  unfold badE
  clear hx
  cases hf : fair x.w
  · have f1 := fun W => isFair_any x.w W
    rw [hf] at f1
    go_enter Tryz.func52, Tryz.ntmps52
    go_wp2_with (first | (go_at_call 53; refine (f1 _).mono ?_; rintro e w1 ⟨rfl, rfl⟩))
    go_ret
    exact ⟨rfl, (by repeat (first | (with_reducible exact Ext.refl _) | (with_reducible assumption) | (with_reducible apply Ext.alloc) | (with_reducible apply Ext.drewN) | (with_reducible apply Ext.drew) | (with_reducible apply Ext.grow) | (with_reducible refine Ext.trans ?_ (by with_reducible assumption))))⟩
  · have f1 := fun W => isFair_any x.w W
    rw [hf] at f1
    generalize rsound x.row = b at *
    go_enter Tryz.func52, Tryz.ntmps52
    go_wp2_with (first | (go_at_call 53; refine (f1 _).mono ?_; rintro e w1 ⟨rfl, rfl⟩) | (go_at_call 54; refine (s1 _ (by repeat (first | (with_reducible exact Ext.refl _) | (with_reducible assumption) | (with_reducible apply Ext.alloc) | (with_reducible apply Ext.drewN) | (with_reducible apply Ext.drew) | (with_reducible apply Ext.grow) | (with_reducible refine Ext.trans ?_ (by with_reducible assumption))))).mono ?_; rintro e w2 ⟨rfl, hE⟩))
    go_ret
    exact ⟨ret_bool (by simp), (by repeat (first | (with_reducible exact Ext.refl _) | (with_reducible assumption) | (with_reducible apply Ext.alloc) | (with_reducible apply Ext.drewN) | (with_reducible apply Ext.drew) | (with_reducible apply Ext.grow) | (with_reducible refine Ext.trans ?_ (by with_reducible assumption))))⟩
/-- Where the first bad entry stands. -/
def badEAt : List GE → Int
  | [] => -1
  | x :: r => if badE x then 0 else (if badEAt r = -1 then -1 else badEAt r + 1)
theorem badEAt_nonneg (r : List GE) : -1 ≤ badEAt r := by
  induction r with
  | nil => simp [badEAt]
  | cons x r ih => unfold badEAt; (repeat' split) <;> omega
theorem badEAt_any (r : List GE) : decide (0 ≤ badEAt r) = r.any badE := by
  induction r with
  | nil => simp [badEAt]
  | cons x r ih =>
    have h1 := badEAt_nonneg r
    rw [List.any_cons, ← ih, badEAt]
    cases hx : badE x
    · rw [if_neg (by simp)]
      by_cases h2 : badEAt r = -1
      · rw [if_pos h2, h2]; rfl
      · rw [if_neg h2]
        have : 0 ≤ badEAt r := by omega
        have h3 : 0 ≤ badEAt r + 1 := by omega
        simp [this, h3]
    · simp
theorem badEAt_hit (r : List GE) (j : Nat) (x : GE) (hj : r[j]? = some x) (h : ∀ (i : Nat) (y : GE), i < j → r[i]? = some y → badE y = false) (hx : badE x = true) : badEAt r = j := by
  induction r generalizing j with
  | nil => simp at hj
  | cons a r ih =>
    cases j with
    | zero => simp at hj; subst hj; simp [badEAt, hx]
    | succ j =>
      have ha : badE a = false := h 0 a (by omega) rfl
      have := ih j (by simpa using hj) (fun i y hi hy => h (i + 1) y (by omega) (by simpa using hy))
      simp only [badEAt, ha, this]
      rw [if_neg (by simp), if_neg (by omega)]; omega
theorem badEAt_miss (r : List GE) (h : ∀ (i : Nat) (y : GE), r[i]? = some y → badE y = false) : badEAt r = -1 := by
  induction r with
  | nil => rfl
  | cons a r ih =>
    have ha : badE a = false := h 0 a rfl
    have := ih (fun i y hy => h (i + 1) y (by simpa using hy))
    simp [badEAt, ha, this]
set_option maxHeartbeats 1000000 in
theorem idxE_any (v : Value) (r : List GE) (w : World) (hr : RdZ w AnyB v r) :
    Calls Tryz.prog 111 #[v, .func (.func 52) #[] #[]] w fun e w' => e = .returned (.int .i64 (badEAt r)) ∧ Ext w w' := by
  obtain ⟨A, c, rfl, hc⟩ := hr.shape
  have hl := hr.len
  have HR := As.mk hr
  clear hr
  go_enter Tryz.func111, Tryz.ntmps111
  go_wp2
  go_loopg [5, 8] r.length (fun g _ s8 wr => ∃ k : Nat, k ≤ r.length ∧ r.length - k ≤ g ∧ s8 = .int .i64 k ∧ As (Ext w wr) ∧ As (∀ i y, i < k → r[i]? = some y → badE y = false))
  case atStart => exact ⟨0, Nat.zero_le _, by omega, rfl, ⟨Ext.refl _⟩, ⟨fun i y hi => absurd hi (Nat.not_lt_zero _)⟩⟩
  case round =>
    obtain ⟨k, hk, hg, rfl, HE, HA⟩ := hrel
    by_cases hlt : k < r.length
    · have hltz : (k : Int) < (r.length : Int) := by omega
      obtain ⟨x, hx⟩ : ∃ x, r[k]? = some x := ⟨_, List.getElem?_eq_getElem hlt⟩
      obtain ⟨b, o, c', A1, d1, hv, hb, _, hxr, c0, c1⟩ := RdZ.ent (HR.out.ext HE.out.below) hx
      injection hv with hA _ hcc
      subst hA
      have s1 := fun W (hE : Ext wr W) => zMake1_any A1 d1 x W (hxr.ext hE.below)
      have HX := As.mk hx
      clear hx hcc hxr
      cases hs : badE x
      · rw [hs] at s1
        have HS := As.mk hs
        clear hs
        go_wp2_with (go_at_call 52; refine (s1 _ (by repeat (first | (with_reducible exact Ext.refl _) | (with_reducible assumption) | (with_reducible apply Ext.alloc) | (with_reducible apply Ext.drewN) | (with_reducible apply Ext.drew) | (with_reducible apply Ext.grow) | (with_reducible refine Ext.trans ?_ (by with_reducible assumption))))).mono ?_; rintro e w1 ⟨rfl, hE⟩)
        go_roundg (r.length - (k + 1))
        case measure => omega
        case rel =>
          have hE1 := HE.out
          refine ⟨k + 1, by omega, by omega, by go_num, ⟨(by repeat (first | (with_reducible exact Ext.refl _) | (with_reducible assumption) | (with_reducible apply Ext.alloc) | (with_reducible apply Ext.drewN) | (with_reducible apply Ext.drew) | (with_reducible apply Ext.grow) | (with_reducible refine Ext.trans ?_ (by with_reducible assumption))))⟩, ⟨fun i y hi hy => ?_⟩⟩
          by_cases e : i = k
          · subst e; rw [HX.out] at hy; injection hy with hy; subst hy; exact HS.out
          · exact HA.out i y (by omega) hy
      · rw [hs] at s1
        have HS := As.mk hs
        clear hs
        go_wp2_with (go_at_call 52; refine (s1 _ (by repeat (first | (with_reducible exact Ext.refl _) | (with_reducible assumption) | (with_reducible apply Ext.alloc) | (with_reducible apply Ext.drewN) | (with_reducible apply Ext.drew) | (with_reducible apply Ext.grow) | (with_reducible refine Ext.trans ?_ (by with_reducible assumption))))).mono ?_; rintro e w1 ⟨rfl, hE⟩)
        go_ret
        have hE1 := HE.out
        exact ⟨ret_int (badEAt_hit r k x HX.out HA.out HS.out).symm, (by repeat (first | (with_reducible exact Ext.refl _) | (with_reducible assumption) | (with_reducible apply Ext.alloc) | (with_reducible apply Ext.drewN) | (with_reducible apply Ext.drew) | (with_reducible apply Ext.grow) | (with_reducible refine Ext.trans ?_ (by with_reducible assumption))))⟩
    · have hltz : ¬ (k : Int) < (r.length : Int) := by omega
      go_wp2
      go_ret
      exact ⟨ret_int (badEAt_miss r fun i y hy => HA.out i y (by have := (List.getElem?_eq_some_iff.1 hy).1; omega) hy).symm, HE.out⟩
theorem contE_any (v : Value) (r : List GE) (w : World) (hr : RdZ w AnyB v r) :
    Calls Tryz.prog 51 #[v, .func (.func 52) #[] #[]] w fun e w' => e = .returned (.bool (r.any badE)) ∧ Ext w w' := by
  have h1 := idxE_any v r w hr
  have H2 := As.mk (badEAt_any r)
  clear hr
  generalize badEAt r = b at *
  go_enter Tryz.func51, Tryz.ntmps51
  go_wp2_with (go_at_call 111; refine h1.mono ?_; rintro e w1 ⟨rfl, hE⟩)
  go_ret
  exact ⟨ret_bool (by rw [← H2.out]), hE⟩
theorem eqn_ents (a : Option Addr) (n c : Nat) (w : World) : (binOp .eql 34 (.slice a n c) (.slice none 0 0)).run Tryz.prog w = .ok (.bool a.isNone) w := Lib.run_eql_slice_nil w _ _ a n c _ _ Tryz.underlying34
/-- What was there before. -/
def Old (n : Nat) : Blk := fun k _ => k < n
theorem Stays.old (w : World) (ok : Blk) : Stays w w ok (Old w.heap.size) := fun k t cells fr ho hh => ⟨⟨(Array.getElem?_eq_some_iff.1 hh).1, ho.2.imp id fun _ => (Array.getElem?_eq_some_iff.1 hh).1⟩, hh⟩
theorem cloneE_any (v : Value) (r : List GE) (w : World) (hr : RdZ w AnyB v r) :
    Calls Tryz.prog 55 #[v] w fun e w' => ∃ u, e = .returned u ∧ OwnL 2 (EE w' (Old w.heap.size)) 66 w' w.heap.size u r ∧ Below w.heap.size w w' := by
  obtain ⟨A, c, rfl, hc⟩ := hr.shape
  have hl := hr.len
  have he := fun W => eqn_ents A r.length c W
  have HR : As (RdL 2 (EE w (Old w.heap.size)) w AnyB (.slice A r.length c) r) := ⟨hr.move (fun _ _ e => e.mv (Stays.old w _)) (Stays.any _ _)⟩
  clear hr
  cases A with
  | none =>
    go_enter Tryz.func55, Tryz.ntmps55
    go_wp2_with fail
    go_ret
    have h0 : r = [] := by
      rcases Nat.eq_zero_or_pos r.length with h0 | h0
      · exact List.eq_nil_of_length_eq_zero h0
      · obtain ⟨ad, cs, h, _⟩ := HR.out.flat h0
        cases h
    subst h0
    exact ⟨_, rfl, OwnL.nil _ _ _ _ _, Below.refl _ _⟩
  | some ad =>
    have HB := As.mk ((Below.refl w.heap.size w).alloc (Nat.le_refl _) (.cells #[] 66))
    have HO := As.mk (OwnL.made 2 (EE (w.alloc (.cells #[] 66)) (Old w.heap.size)) 66 w w.heap.size #[] 0 (Nat.le_refl _) (by simp [maxLen]) rfl)
    have HR1 := As.mk (HR.out.move (fun _ _ e => e.mv (Stays.below HB.out (Old w.heap.size))) (Stays.below HB.out AnyB))
    clear HR
    go_enter Tryz.func55, Tryz.ntmps55
    go_wp2_with (at_builtin; refine OwnL.appends w.heap.size rfl _ _ 34 66 _ 2 32 rfl Tryz.underlying34 info_entry rfl (by decide) (by decide) _ [] r _ _ _ rfl rfl HR1.out HO.out HB.out (by simp) (by simpa using hl) ?_; intro v1 w1 hown hb hg hat)
    go_ret
    refine ⟨_, rfl, OwnL.imp (by simpa using hown) (fun x cs h => EE.mv h ?_), hb⟩
    exact Stays.grown hg _ fun g t cells fr hgb hh ho => by
      have h1 := (HO.out.lt g hgb).1
      have h2 : g < w.heap.size := ho
      omega
/-! ### Sums of 128 bits -/
/-- total: s in two parts. -/
def tot (s : Int) : Value := .agg #[.int .i64 (s / 18446744073709551616), .int .u64 (s % 18446744073709551616)]
theorem add64_run (x y : Int) (hx : 0 ≤ x) (hy : 0 ≤ y) (w : World) : (callFunc 116 #[.int .u64 x, .int .u64 y, .int .u64 0]).run Tryz.prog w = .ok (.value (.tuple #[.int .u64 ((x + y) % 18446744073709551616), .int .u64 ((x + y) / 18446744073709551616)])) w := by
  rw [run_callFunc_extern Tryz.func116 (by kernel_rfl) (by kernel_rfl) (by kernel_rfl) (e := add64Entry) (by kernel_rfl)]
  have h := run_add64 (P := Tryz.prog) x y 0 hx hy (by decide) (by decide) w
  rw [Int.add_zero] at h
  simp only [Sem.run_map, h]
  rfl
theorem totAdd_any (s n : Int) (w : World) (hs : -79228162514264337593543950336 ≤ s ∧ s ≤ 79228162514264337593543950336) (hn : i64 n) :
    Calls Tryz.prog 58 #[tot s, .int .i64 n] w fun e w' => e = .returned (tot (s + n)) ∧ Ext w w' := by
  unfold i64 at hn
  have hw : IntKind.u64.wrap n = n % 18446744073709551616 := by simp [IntKind.wrap, IntKind.bits, IntKind.signed]
  have h1 := fun W => add64_run (s % 18446744073709551616) (n % 18446744073709551616) (by omega) (by omega) W
  obtain ⟨lo, hlo⟩ : ∃ lo, lo = (s % 18446744073709551616 + n % 18446744073709551616) % 18446744073709551616 := ⟨_, rfl⟩
  obtain ⟨ca, hca⟩ : ∃ ca, ca = (s % 18446744073709551616 + n % 18446744073709551616) / 18446744073709551616 := ⟨_, rfl⟩
  have e1 : (s + n) / 18446744073709551616 = s / 18446744073709551616 + n / 9223372036854775808 + ca := by omega
  have e2 : (s + n) % 18446744073709551616 = lo := by omega
  have HE : As (tot (s + n) = .agg #[.int .i64 (s / 18446744073709551616 + n / 9223372036854775808 + ca), .int .u64 lo]) := ⟨by unfold tot; rw [e1, e2]⟩
  have hca1 : 0 ≤ ca ∧ ca ≤ 1 := by omega
  have hhi : -4294967296 ≤ s / 18446744073709551616 ∧ s / 18446744073709551616 ≤ 4294967296 := by omega
  have hsg : -1 ≤ n / 9223372036854775808 ∧ n / 9223372036854775808 ≤ 0 := by omega
  rw [← hlo, ← hca] at h1
  clear e1 e2 hlo hca
  generalize tot (s + n) = q at *
  unfold tot
  go_enter Tryz.func58, Tryz.ntmps58
  go_wp2_with fail
  (try simp only [Exit.inBlock, Exit.then])
  refine bodyPost_ret (results_cell_row rfl _ _ (w.heap.size + 1) 116 _ (0, 0) _ rfl (heap_alloc2_new w _ _) Tryz.underlying116 rfl (by kernel_rfl)) rfl ?_
  exact ⟨by rw [HE.out], (by repeat (first | (with_reducible exact Ext.refl _) | (with_reducible assumption) | (with_reducible apply Ext.alloc) | (with_reducible apply Ext.drewN) | (with_reducible apply Ext.drew) | (with_reducible apply Ext.grow) | (with_reducible refine Ext.trans ?_ (by with_reducible assumption))))⟩
/-- The sum as a weight: whether it is fair. -/
theorem totWeight_any (s : Int) (w : World) (hs : -79228162514264337593543950336 ≤ s ∧ s ≤ 79228162514264337593543950336) :
    Calls Tryz.prog 59 #[tot s] w fun e w' => ∃ x, e = .returned (.tuple #[.int .i64 x, .bool (fair s)]) ∧ (fair s = true → x = s) ∧ Ext w w' := by
  obtain ⟨lo, hlo⟩ : ∃ lo, lo = s % 18446744073709551616 := ⟨_, rfl⟩
  obtain ⟨hi, hhi⟩ : ∃ hi, hi = s / 18446744073709551616 := ⟨_, rfl⟩
  obtain ⟨x, hx⟩ : ∃ x, x = IntKind.i64.wrap lo := ⟨_, rfl⟩
  have hx2 : x = if lo < 9223372036854775808 then lo else lo - 18446744073709551616 := by rw [hx, IntKind.wrap_i64]; split <;> omega
  have hT : tot s = .agg #[.int .i64 hi, .int .u64 lo] := by rw [hlo, hhi]; rfl
  have hxs : (hi == x / 9223372036854775808) = decide (s = x) := by
    rw [Bool.eq_iff_iff, beq_iff_eq, decide_eq_true_eq]
    split at hx2 <;> omega
  have HX : As (fair s = (decide (s = x) && fair x)) := ⟨by
    by_cases e : s = x
    · rw [← e]; simp
    · have h1 : fair s = false := by
        unfold fair
        simp only [Bool.and_eq_false_iff, decide_eq_false_iff_not]
        split at hx2 <;> omega
      rw [h1, decide_eq_false e]; rfl⟩
  have HX2 : As (fair s = true → x = s) := ⟨fun h => by
    rw [HX.out, Bool.and_eq_true, decide_eq_true_eq] at h
    exact h.1.symm⟩
  have hxr : -1 ≤ x / 9223372036854775808 ∧ x / 9223372036854775808 ≤ 0 := by split at hx2 <;> omega
  rw [hT]
  have hx' := hx.symm
  clear hT hlo hhi hx hx2 hs
  have f1 := fun W => isFair_any x W
  generalize fair s = fs at *
  cases he : decide (s = x)
  · rw [he] at hxs
    go_enter Tryz.func59, Tryz.ntmps59
    go_wp2_with (go_at_call 53; refine (f1 _).mono ?_; rintro e w1 ⟨rfl, rfl⟩)
    go_ret2
    exact ⟨x, by rw [HX.out, he]; rfl, HX2.out, (by repeat (first | (with_reducible exact Ext.refl _) | (with_reducible assumption) | (with_reducible apply Ext.alloc) | (with_reducible apply Ext.drewN) | (with_reducible apply Ext.drew) | (with_reducible apply Ext.grow) | (with_reducible refine Ext.trans ?_ (by with_reducible assumption))))⟩
  · rw [he] at hxs
    go_enter Tryz.func59, Tryz.ntmps59
    go_wp2_with (go_at_call 53; refine (f1 _).mono ?_; rintro e w1 ⟨rfl, rfl⟩)
    go_ret2
    exact ⟨x, by rw [HX.out, he]; simp, HX2.out, (by repeat (first | (with_reducible exact Ext.refl _) | (with_reducible assumption) | (with_reducible apply Ext.alloc) | (with_reducible apply Ext.drewN) | (with_reducible apply Ext.drew) | (with_reducible apply Ext.grow) | (with_reducible refine Ext.trans ?_ (by with_reducible assumption))))⟩
end Go.Proofs.YtflckpfpgpfjlaaGreatDoor
end
section
namespace Go.Proofs.YtflckpfpgpfjlaaGreatDoor
open Go.RowKit Go.Sort
/-- What Make has made of the first p entries of a sorted list. -/
structure MkSt (xs : List GE) (p : Nat) (outs : List GE) : Prop where
  ok : ZOk outs
  fz : FairZ outs
  sum : ∀ r, zw outs r = zw (xs.take p) r
  mem : ∀ x ∈ outs, ∃ y ∈ xs.take p, y.row = x.row
  lt : ∀ x ∈ xs.take p, ∀ y ∈ xs.drop p, rlex x.row y.row < 0
  fin : ∀ x ∈ xs.take p, fair (zw xs x.row) = true
theorem MkSt.first (xs : List GE) : MkSt xs 0 [] := ⟨ZOk.nil, fun x hx => (by cases hx), fun r => rfl, fun x hx => (by cases hx), fun x hx => (by simp at hx), fun x hx => (by simp at hx)⟩
theorem zw_same {g : List GE} {r : List GV} (h : ∀ x ∈ g, x.row = r) : zw g r = sumI GE.w g := by
  induction g with
  | nil => rfl
  | cons x g ih =>
    have hx := h x (by simp)
    subst hx
    rw [zw_hit, ih fun y hy => h y (by simp [hy])]
    rfl
/-- A group's sum is the row's weight. -/
theorem group_sum {xs outs : List GE} {p n : Nat} {r : List GV} (h : MkSt xs p outs) (hn : 0 < n) (hpn : p + n ≤ xs.length) (hg : ∀ x ∈ (xs.drop p).take n, x.row = r) (hr : ∀ y ∈ xs.drop (p + n), rlex r y.row < 0) :
    zw xs r = sumI GE.w ((xs.drop p).take n) := by
  have e : xs = xs.take p ++ ((xs.drop p).take n ++ xs.drop (p + n)) := by
    have h1 := List.take_append_drop p xs
    have h2 := List.take_append_drop n (xs.drop p)
    rw [List.drop_drop] at h2
    rw [h2, h1]
  conv => lhs; rw [e]
  rw [zw_app, zw_app, zw_same hg, zw_none (z := xs.take p) fun x hx er => ?_, zw_none (z := xs.drop (p + n)) fun y hy er => ?_]
  · omega
  · have := hr y hy
    rw [er] at this
    exact rlex_ne this rfl
  · have hm : ∃ y, y ∈ (xs.drop p).take n := by
      have hl : 0 < ((xs.drop p).take n).length := by rw [List.length_take, List.length_drop]; omega
      exact ⟨_, List.getElem_mem hl⟩
    obtain ⟨y, hy⟩ := hm
    have := h.lt x hx y (List.mem_of_mem_take hy)
    rw [hg y hy, er] at this
    exact rlex_ne this rfl
theorem MkSt.step {xs outs : List GE} {p n : Nat} {r : List GV} {s : Int} (h : MkSt xs p outs) (hn : 0 < n) (hpn : p + n ≤ xs.length) (hok : RowOk r) (hg : ∀ x ∈ (xs.drop p).take n, x.row = r) (hr : ∀ y ∈ xs.drop (p + n), rlex r y.row < 0)
    (hs : s = sumI GE.w ((xs.drop p).take n)) (hf : fair s = true) : MkSt xs (p + n) (if s = 0 then outs else outs ++ [⟨r, s⟩]) := by
  have hsum := group_sum h hn hpn hg hr
  rw [← hs] at hsum
  have htk : xs.take (p + n) = xs.take p ++ (xs.drop p).take n := List.take_add
  have hgw : ∀ q, zw ((xs.drop p).take n) q = if sameR r q = true then s else 0 := fun q => by
    by_cases hq : r = q
    · subst hq
      rw [if_pos ((sameR_eq _ _).2 rfl), hs, zw_same hg]
    · rw [if_neg fun e => hq ((sameR_eq _ _).1 e), zw_none fun x hx e => hq ((hg x hx).symm.trans e)]
  obtain ⟨y0, hy0⟩ : ∃ y, y ∈ (xs.drop p).take n := by
    have hl : 0 < ((xs.drop p).take n).length := by rw [List.length_take, List.length_drop]; omega
    exact ⟨_, List.getElem_mem hl⟩
  have hlt : ∀ x ∈ outs, rlex x.row r < 0 := fun x hx => by
    obtain ⟨y, hy, e⟩ := h.mem x hx
    have := h.lt y hy y0 (List.mem_of_mem_take hy0)
    rw [hg y0 hy0, e] at this
    exact this
  have h1 : ∀ x ∈ xs.take (p + n), ∀ y ∈ xs.drop (p + n), rlex x.row y.row < 0 := fun x hx y hy => by
    rw [htk] at hx
    rcases List.mem_append.1 hx with hx | hx
    · refine h.lt x hx y ?_
      rw [← List.drop_drop] at hy
      exact List.mem_of_mem_drop hy
    · rw [hg x hx]; exact hr y hy
  have h2 : ∀ x ∈ xs.take (p + n), fair (zw xs x.row) = true := fun x hx => by
    rw [htk] at hx
    rcases List.mem_append.1 hx with hx | hx
    · exact h.fin x hx
    · rw [hg x hx, hsum]; exact hf
  by_cases h0 : s = 0
  · rw [if_pos h0]
    refine ⟨h.ok, h.fz, fun q => ?_, fun x hx => ?_, h1, h2⟩
    · rw [htk, zw_app, h.sum, hgw]; split <;> omega
    · obtain ⟨y, hy, e⟩ := h.mem x hx
      exact ⟨y, by rw [htk]; exact List.mem_append_left _ hy, e⟩
  · rw [if_neg h0]
    refine ⟨⟨fun x hx => ?_, fun x hx => ?_, ?_⟩, fun x hx => ?_, fun q => ?_, fun x hx => ?_, h1, h2⟩
    · rcases List.mem_append.1 hx with hx | hx
      · exact h.ok.row x hx
      · rw [List.mem_singleton.1 hx]; exact hok
    · rcases List.mem_append.1 hx with hx | hx
      · exact h.ok.w x hx
      · rw [List.mem_singleton.1 hx]; exact h0
    · rw [List.pairwise_append]
      refine ⟨h.ok.rise, List.pairwise_singleton _ _, fun x hx y hy => ?_⟩
      rw [List.mem_singleton.1 hy]
      exact hlt x hx
    · rcases List.mem_append.1 hx with hx | hx
      · exact h.fz x hx
      · rw [List.mem_singleton.1 hx]; exact hf
    · rw [htk, zw_app, zw_app, h.sum, hgw]
      show _ + ((if sameR r q = true then s else 0) + 0) = _
      omega
    · rcases List.mem_append.1 hx with hx | hx
      · obtain ⟨y, hy, e⟩ := h.mem x hx
        exact ⟨y, by rw [htk]; exact List.mem_append_left _ hy, e⟩
      · rw [List.mem_singleton.1 hx]
        exact ⟨y0, by rw [htk]; exact List.mem_append_right _ hy0, hg y0 hy0⟩
/-- Make's answer: z is the multiset of the entries l. -/
structure Made (l z : List GE) : Prop where
  ok : ZOk z
  fz : FairZ z
  sum : ∀ r, zw z r = zw l r
theorem MkSt.made {l xs outs : List GE} (h : MkSt xs xs.length outs) (hp : xs.Perm l) : Made l outs := ⟨h.ok, h.fz, fun r => by rw [h.sum, List.take_length, zw_perm hp]⟩
theorem Made.one {l a b : List GE} (ha : Made l a) (hb : Made l b) : a = b := zext ha.ok hb.ok fun r _ => by rw [ha.sum, hb.sum]
/-- Is a row's sum too great? -/
def overL (l : List GE) : Bool := l.any fun x => !fair (zw l x.row)
theorem MkSt.notOver {l xs outs : List GE} (h : MkSt xs xs.length outs) (hp : xs.Perm l) : overL l = false := by
  unfold overL
  rw [List.any_eq_false]
  intro x hx
  have := h.fin x (by rw [List.take_length]; exact hp.mem_iff.2 hx)
  rw [zw_perm hp] at this
  rw [this]; simp
theorem over_at {l xs : List GE} (hp : xs.Perm l) {x : GE} (hx : x ∈ xs) (hf : fair (zw xs x.row) = false) : overL l = true := by
  unfold overL
  rw [List.any_eq_true]
  exact ⟨x, hp.mem_iff.1 hx, by rw [← zw_perm hp, hf]; rfl⟩
theorem sumI_app {α : Type} (f : α → Int) (a b : List α) : sumI f (a ++ b) = sumI f a + sumI f b := by
  induction a with
  | nil => rw [List.nil_append]; show _ = 0 + _; omega
  | cons x a ih => rw [List.cons_append, sumI, sumI, ih]; omega
theorem sum_bound {g : List GE} (h : ∀ x ∈ g, fair x.w = true) : -(4611686018427387904 * (g.length : Int)) ≤ sumI GE.w g ∧ sumI GE.w g ≤ 4611686018427387904 * (g.length : Int) := by
  induction g with
  | nil => simp [sumI]
  | cons x g ih =>
    have h1 := ih fun y hy => h y (by simp [hy])
    have h2 := h x (by simp)
    unfold fair at h2
    simp only [Bool.and_eq_true, decide_eq_true_eq] at h2
    rw [sumI, List.length_cons]
    push_cast
    omega
/-- What Make answers. -/
def MakePost (l : List GE) (w : World) (e : Ending) (w' : World) : Prop := Below w.heap.size w w' ∧
  if l.any badE = true then e = .returned (.tuple #[.slice none 0 0, .int .i64 1])
  else if overL l = true then e = .returned (.tuple #[.slice none 0 0, .int .i64 11])
  else ∃ v z, e = .returned (.tuple #[v, .int .i64 0]) ∧ Made l z ∧ RdZ2 w' w.heap.size v z ∧ z.length ≤ l.length
theorem badE_ok {l : List GE} (h : l.any badE = false) : ∀ x ∈ l, fair x.w = true ∧ rsound x.row = true := fun x hx => by
  have := List.any_eq_false.1 h x hx
  unfold badE at this
  cases h1 : fair x.w <;> cases h2 : rsound x.row <;> simp_all
theorem set2_heap {w : World} {k : Nat} {a b a' b' : Value} {T : TypeId} (h : w.heap[k]? = some (.cells #[a, b] T (0, 0))) : ((w.setCell ⟨k, 0, none⟩ a').setCell ⟨k, 1, none⟩ b').heap[k]? = some (.cells #[a', b'] T (0, 0)) := by
  have h1 := heap_setCell_same w k 0 _ T a' h
  have h2 := heap_setCell_same _ k 1 _ T b' h1
  simpa using h2
theorem pair_cells {w : World} {k : Nat} {a b : Value} {T : TypeId} (h : w.heap[k]? = some (.cells #[a, b] T (0, 0))) : w.cell? ⟨k, 0, none⟩ = some a ∧ w.cell? ⟨k, 1, none⟩ = some b ∧ w.frozen? ⟨k, 0, none⟩ = false ∧ w.frozen? ⟨k, 1, none⟩ = false := by
  refine ⟨?_, ?_, Lib.frozen_of_heap h 0, Lib.frozen_of_heap h 1⟩ <;> rw [Lib.cell_of_heap h] <;> rfl
theorem MakePost.bad {l : List GE} {w w' : World} (hB : Below w.heap.size w w') (h : l.any badE = true) : MakePost l w (.returned (.tuple #[.slice none 0 0, .int .i64 1])) w' := ⟨hB, by rw [if_pos h]⟩
theorem MakePost.over {l : List GE} {w w' : World} (hB : Below w.heap.size w w') (h : l.any badE = false) (h2 : overL l = true) : MakePost l w (.returned (.tuple #[.slice none 0 0, .int .i64 11])) w' := ⟨hB, by rw [if_neg (by rw [h]; simp), if_pos h2]⟩
theorem MakePost.good {l : List GE} {w w' : World} (hB : Below w.heap.size w w') (h : l.any badE = false) (h2 : overL l = false) {v : Value} {z : List GE} (hM : Made l z) (hR : RdZ2 w' w.heap.size v z) (hl : z.length ≤ l.length) : MakePost l w (.returned (.tuple #[v, .int .i64 0])) w' := ⟨hB, by rw [if_neg (by rw [h]; simp), if_neg (by rw [h2]; simp)]; exact ⟨v, z, rfl, hM, hR, hl⟩⟩
theorem zsound0_of : ∀ {z : List GE} {p : Option GE}, ZOk z → FairZ z → (∀ y, p = some y → rsound y.row = true ∧ ∀ x ∈ z, rlex y.row x.row < 0) → zsound0 p z = true
  | [], _, _, _, _ => rfl
  | x :: z, p, h, hf, hp => by
    have hx := h.row x (by simp)
    have h2 := zsound0_of (z := z) (p := some x) h.tail (fun y hy => hf y (by simp [hy])) fun y hy => by
      rw [← Option.some.inj hy]
      exact ⟨hx.1, fun u hu => (List.pairwise_cons.1 h.rise).1 u hu⟩
    rw [zsound0, h2, Bool.and_true]
    unfold entOk
    rw [hf x (by simp), hx.1, beq_eq_false_iff_ne.2 (h.w x (by simp))]
    cases p with
    | none => rfl
    | some y =>
      obtain ⟨p1, p2⟩ := hp y rfl
      have := p2 x (by simp)
      simp only [rcmp_lex p1 hx.1]
      simpa using this
theorem zok_sound {z : List GE} (h : ZOk z) (hf : FairZ z) : zsound z = true := zsound0_of h hf fun _ h => by cases h
theorem zsound_badE {z : List GE} (h : zsound z = true) : ∀ x ∈ z, badE x = false := fun x hx => by
  obtain ⟨_, h2, h3⟩ := (zsound_parts h).1 x hx
  unfold badE
  rw [h2, h3]; rfl
theorem add_badE {a b : List GE} (ha : zsound a = true) (hb : zsound b = true) : (a ++ b).any badE = false := by
  rw [List.any_eq_false]
  intro x hx
  rcases List.mem_append.1 hx with hx | hx
  · rw [zsound_badE ha x hx]; simp
  · rw [zsound_badE hb x hx]; simp
/-- What Add answers. -/
def AddPost (a b : List GE) (w : World) (e : Ending) (w' : World) : Prop := Below w.heap.size w w' ∧
  if zsound a = false ∨ zsound b = false then e = .returned (.tuple #[.slice none 0 0, .int .i64 1])
  else if overL (a ++ b) = true then e = .returned (.tuple #[.slice none 0 0, .int .i64 11])
  else ∃ v z, e = .returned (.tuple #[v, .int .i64 0]) ∧ Made (a ++ b) z ∧ RdZ2 w' w.heap.size v z ∧ z.length ≤ a.length + b.length
theorem AddPost.bad {a b : List GE} {w w' : World} (hB : Below w.heap.size w w') (h : zsound a = false ∨ zsound b = false) : AddPost a b w (.returned (.tuple #[.slice none 0 0, .int .i64 1])) w' := ⟨hB, by rw [if_pos h]⟩
theorem AddPost.of {a b : List GE} {w w4 w5 : World} {e : Ending} (hB4 : Below w.heap.size w w4) (hs : zsound a = true) (hs2 : zsound b = true) (h : MakePost (a ++ b) w4 e w5) : AddPost a b w e w5 := by
  obtain ⟨hB5, hp⟩ := h
  refine ⟨hB4.trans (hB5.mono hB4.size), ?_⟩
  rw [if_neg (by rw [hs, hs2]; simp)]
  rw [if_neg (by rw [add_badE hs hs2]; simp)] at hp
  split at hp
  · next ho => rw [if_pos ho]; exact hp
  · next ho =>
    rw [if_neg ho]
    obtain ⟨v, z, h1, h2, h3, h4⟩ := hp
    exact ⟨v, z, h1, h2, h3.low hB4.size, by rw [List.length_append] at h4; exact h4⟩
theorem MakePost.shape {l : List GE} {w w' : World} {e : Ending} (h : MakePost l w e w') : ∃ (A : Option Addr) (n c : Nat) (k : Int), e = .returned (.tuple #[.slice A n c, .int .i64 k]) := by
  obtain ⟨_, h⟩ := h
  split at h
  · exact ⟨_, _, _, _, h⟩
  · split at h
    · exact ⟨_, _, _, _, h⟩
    · obtain ⟨v, z, h, _, hr, _⟩ := h
      obtain ⟨A, c, rfl, _⟩ := hr.shape
      exact ⟨_, _, _, _, h⟩
end Go.Proofs.YtflckpfpgpfjlaaGreatDoor
end
