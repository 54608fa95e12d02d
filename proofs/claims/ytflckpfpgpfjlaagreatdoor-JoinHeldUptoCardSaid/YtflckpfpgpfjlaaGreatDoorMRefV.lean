/- The walks of the reference's values: Plain, Sound, Compare. The reference's totals: the plain law of its sums in order. The walks of the reference's rows: Sound, Compare, Pick. The walks of the reference's multisets: fair, Sound, copied, a total's weight, Weight. A call's own slice: stores into its elements, copying within it. The walks of the reference's put. The walks of the reference's Make and Add. -/
import Derived.Test.YtflckpfpgpfjlaaGreatDoorMGet
import Derived.Test.YtflckpfpgpfjlaaGreatDoorMMkLaw
import Derived.Test.YtflckpfpgpfjlaaGreatDoorMTold
import Derived.Test.YtflckpfpgpfjlaaGreatDoorMMerge
import Derived.Laws.OwnMore
import Derived.Laws.CopyRow
import Derived.Laws.IdiomCopy
set_option linter.unusedVariables false
set_option linter.unusedSimpArgs false
section
namespace Go.Proofs.YtflckpfpgpfjlaaGreatDoor
open Go.RowKit Go.Sort
attribute [local go_sem ↓] eqVal neVal
def rnan (f : Int) : Bool := decide (9218868437227405312 < bits BinOp.and .u64 f 9223372036854775807)
theorem and_low {f : Int} (h : u64 f) : bits BinOp.and .u64 f 9223372036854775807 = f % 9223372036854775808 := by
  obtain ⟨h1, h2⟩ := h
  exact bits_mask .u64 64 (by decide) (by intro n h1 h2; rw [IntKind.wrap_u64]; omega) 63 (by decide) f h1 (by omega)
theorem rnan_eq {f : Int} (h : u64 f) : rnan f = fnan f.toNat := by
  unfold rnan
  rw [and_low h, fnan_rung]
  obtain ⟨h1, h2⟩ := h
  unfold frung
  have : f % 9223372036854775808 = ((f.toNat % 9223372036854775808 : Nat) : Int) := by omega
  rw [this]
  rw [Bool.eq_iff_iff, decide_eq_true_eq, decide_eq_true_eq]
  omega
theorem r1isNaN_any (f : Int) (w : World) : Calls Tryz.prog 231 #[.int .u64 f] w fun e w' => e = .returned (.bool (rnan f)) ∧ w = w' := by
  go_enter Tryz.func231, Tryz.ntmps231
  go_wp2
  go_ret
  exact ⟨ret_bool (by first | rfl | (unfold rnan; simp)), rfl⟩
theorem r1Plain_any (f : Int) (hf : u64 f) (w : World) : Calls Tryz.prog 195 #[.int .u64 f] w fun e w' => e = .returned (.int .u64 (vplain f)) ∧ w = w' := by
  have hn := rnan_eq hf
  by_cases h : f = 9223372036854775808
  · subst h
    have hv : vplain 9223372036854775808 = 0 := by decide
    rw [hv]
    clear hn hv
    go_enter Tryz.func195, Tryz.ntmps195
    go_wp2
    go_ret
    exact ⟨rfl, rfl⟩
  · have hb : (f == 9223372036854775808) = false := by simpa using h
    have hv : vplain f = if rnan f = true then 9221120237041090560 else f := by unfold vplain; rw [hn, hb]; simp
    rw [hv]
    have s1 := fun W => r1isNaN_any f W
    clear hn hv h hf
    cases hr : rnan f
    · rw [hr] at s1
      clear hr
      go_enter Tryz.func195, Tryz.ntmps195
      go_wp2_with (go_at_call 231; refine (s1 _).mono ?_; rintro e w1 ⟨rfl, rfl⟩)
      go_ret
      exact ⟨rfl, rfl⟩
    · rw [hr] at s1
      clear hr
      go_enter Tryz.func195, Tryz.ntmps195
      go_wp2_with (go_at_call 231; refine (s1 _).mono ?_; rintro e w1 ⟨rfl, rfl⟩)
      go_ret
      exact ⟨rfl, rfl⟩
def rkey (f : Int) : Int := if 9223372036854775808 ≤ f then 18446744073709551615 - f else f + 9223372036854775808
theorem xor_max {f : Int} (h : u64 f) : bits BinOp.xor .u64 18446744073709551615 f = 18446744073709551615 - f := by
  obtain ⟨h1, h2⟩ := h
  obtain ⟨n, rfl⟩ := Int.eq_ofNat_of_zero_le h1
  show IntKind.u64.wrap ((BitVec.ofInt 64 18446744073709551615 ^^^ BitVec.ofInt 64 (n : Int)).toNat : Int) = _
  rw [show BitVec.ofInt 64 18446744073709551615 = BitVec.allOnes 64 by decide, BitVec.allOnes_xor, BitVec.toNat_not, BitVec.ofInt_natCast, BitVec.toNat_ofNat, IntKind.wrap_u64]
  omega
theorem or_high {f : Int} (h1 : 0 ≤ f) (h2 : f < 9223372036854775808) : bits BinOp.or .u64 f 9223372036854775808 = f + 9223372036854775808 := by
  obtain ⟨n, rfl⟩ := Int.eq_ofNat_of_zero_le h1
  have h := bits_or_u64_nat n 9223372036854775808 (by omega) (by decide)
  have e : n ||| 9223372036854775808 = n + 9223372036854775808 := by
    have := Nat.two_pow_add_eq_or_of_lt (i := 63) (b := n) (by omega) 1
    rw [Nat.or_comm]
    simpa [Nat.add_comm] using this.symm
  rw [e] at h
  have h' : bits BinOp.or .u64 (n : Int) 9223372036854775808 = ((n + 9223372036854775808 : Nat) : Int) := h
  rw [h', Int.natCast_add]
  rfl
theorem r1key_any (f : Int) (hf : u64 f) (w : World) : Calls Tryz.prog 197 #[.int .u64 f] w fun e w' => e = .returned (.int .u64 (rkey f)) ∧ w = w' := by
  by_cases h : 9223372036854775808 ≤ f
  · have hb : (f / 9223372036854775808 == 1) = true := by
      obtain ⟨h1, h2⟩ := hf
      have : f / 9223372036854775808 = 1 := by omega
      simpa using this
    have hx := xor_max hf
    have hv : rkey f = 18446744073709551615 - f := by unfold rkey; rw [if_pos h]
    rw [hv, ← hx]
    clear hv hx h hf
    go_enter Tryz.func197, Tryz.ntmps197
    go_wp2
    go_ret
    exact ⟨rfl, rfl⟩
  · have hb : (f / 9223372036854775808 == 1) = false := by
      obtain ⟨h1, h2⟩ := hf
      have : f / 9223372036854775808 = 0 := by omega
      rw [this]; rfl
    have hx := or_high hf.1 (by omega)
    have hv : rkey f = f + 9223372036854775808 := by unfold rkey; rw [if_neg h]
    rw [hv, ← hx]
    clear hv hx h hf
    go_enter Tryz.func197, Tryz.ntmps197
    go_wp2
    go_ret
    exact ⟨rfl, rfl⟩
theorem rkey_cmp {a b : Int} (ha : u64 a) (hb : u64 b) (pa : vplain a = a) (pb : vplain b = b) : icmp (rkey a) (rkey b) = fcmp a.toNat b.toNat := by
  have key : ∀ c : Int, u64 c → vplain c = c → (fnan c.toNat = true ∧ c = 9221120237041090560) ∨ (fnan c.toNat = false ∧ c ≠ 9223372036854775808 ∧ frung c.toNat ≤ 9218868437227405312) := by
    intro c hc pc
    unfold vplain at pc
    cases hn : fnan c.toNat
    · rw [hn] at pc
      refine .inr ⟨rfl, ?_, ?_⟩
      · intro e
        rw [e] at pc
        simp at pc
      · rw [fnan_rung] at hn
        have := of_decide_eq_false hn
        omega
    · rw [hn, if_pos rfl] at pc
      exact .inl ⟨rfl, pc.symm⟩
  have val : ∀ c : Int, u64 c → vplain c = c → (9223372036854775808 ≤ c ∧ fkey c.toNat = 9223372036854775808 - c ∧ c ≠ 9223372036854775808) ∨ (c < 9223372036854775808 ∧ ((fkey c.toNat = c ∧ c ≤ 9218868437227405312) ∨ (fkey c.toNat = 9223372036854775808 ∧ c = 9221120237041090560))) := by
    intro c hc pc
    have hk := key c hc pc
    obtain ⟨c0, c1⟩ := hc
    obtain ⟨m, rfl⟩ := Int.eq_ofNat_of_zero_le c0
    simp only [Int.toNat_natCast] at *
    rcases hk with ⟨h1, h2⟩ | ⟨h1, h2, h3⟩
    · refine .inr ⟨by omega, .inr ⟨?_, h2⟩⟩
      unfold fkey; rw [if_pos h1]
    · have e1 : fneg m = decide (9223372036854775808 ≤ m) := by
        unfold fneg
        by_cases hm : 9223372036854775808 ≤ m
        · rw [decide_eq_true hm, show m / 9223372036854775808 = 1 by omega]; rfl
        · rw [decide_eq_false hm, show m / 9223372036854775808 = 0 by omega]; rfl
      unfold fkey
      rw [h1, e1]
      unfold sgn
      unfold frung at *
      simp only [Bool.false_eq_true, if_false, decide_eq_true_eq]
      split <;> omega
  rw [fcmp_key]
  have va := val a ha pa
  have vb := val b hb pb
  clear key val pa pb
  obtain ⟨a0, a1⟩ := ha
  obtain ⟨b0, b1⟩ := hb
  generalize fkey a.toNat = x at *
  generalize fkey b.toNat = y at *
  unfold icmp rkey
  repeat' split
  all_goals omega
def sgnB (a b : Bool) : Int := if a = true then -1 else if b = true then 1 else 0
theorem r1sign_any (a b : Bool) (w : World) : Calls Tryz.prog 196 #[.bool a, .bool b] w fun e w' => e = .returned (.int .i64 (sgnB a b)) ∧ w = w' := by
  cases a <;> cases b
  all_goals (go_enter Tryz.func196, Tryz.ntmps196; go_wp2_with fail; go_ret; exact ⟨rfl, rfl⟩)
theorem one_num (n : Int) : (n == bits BinOp.and .i64 n 1) = (n == 0 || n == 1) := by
  have h : bits BinOp.and .i64 n 1 = n % 2 := by
    show IntKind.i64.wrap ((BitVec.ofInt 64 n &&& BitVec.ofInt 64 1).toNat : Int) = _
    rw [BitVec.toNat_and, BitVec.toNat_ofInt, BitVec.toNat_ofInt, show ((1 : Int) % ((2 ^ 64 : Nat) : Int)).toNat = 1 by decide, Nat.and_one_is_mod, IntKind.wrap_i64]
    omega
  rw [h, Bool.eq_iff_iff, beq_iff_eq, Bool.or_eq_true, beq_iff_eq, beq_iff_eq]
  omega
theorem vsound_three (n f : Int) (t : ByteArray) : vsound ⟨3, n, f, t⟩ = (eqGV 3 n f t 3 0 f ⟨#[]⟩ && (vplain f == f)) := by
  unfold vsound eqGV
  simp only
  generalize vplain f = p
  rw [Bool.eq_iff_iff]
  simp
  constructor
  · rintro ⟨h1, h2, h3⟩; exact ⟨⟨h1, h3⟩, h2.symm⟩
  · rintro ⟨⟨h1, h3⟩, h2⟩; exact ⟨h1, h2.symm, h3⟩
theorem vsound_one (n f : Int) (t : ByteArray) : vsound ⟨1, n, f, t⟩ = (eqGV 1 n f t 1 n 0 ⟨#[]⟩ && (n == 0 || n == 1)) := by
  unfold vsound eqGV
  simp only [one_num]
  rw [Bool.eq_iff_iff]
  simp
  constructor <;> (intro h; simp_all)
theorem r1Sound_any (x : GV) (w : World) (hx : x.Ok) :
    Calls Tryz.prog 149 #[.agg #[.int .i64 x.k, .int .i64 x.n, .int .u64 x.f, .string x.t]] w fun e w' => e = .returned (.bool (vsound x)) ∧ Ext w w' := by
  obtain ⟨k, n, f, t⟩ := x
  obtain ⟨⟨a1, a2⟩, ⟨b1, b2⟩, hf, d⟩ := hx
  simp only at *
  by_cases hk : k = 3
  · subst hk
    have s1 := fun W => r1Plain_any f hf W
    rw [vsound_three]
    clear hf
    generalize vplain f = p at *
    cases hq : eqGV 3 n f t 3 0 f ⟨#[]⟩
    · go_enter Tryz.func149, Tryz.ntmps149
      go_wp2_with fail
      go_quiet (fail)
      go_wp2
      go_ret
      exact ⟨rfl, (by with_reducible (repeat first | exact Ext.refl _ | assumption | apply Ext.alloc | apply Ext.drewN | apply Ext.drew | apply Ext.grow | refine Ext.trans ?_ (by assumption)))⟩
    · go_enter Tryz.func149, Tryz.ntmps149
      go_wp2_with fail
      go_quiet ((go_at_call 195; exact quiet_same (s1 _)))
      go_wp2
      go_ret
      exact ⟨ret_bool (by simp), (by with_reducible (repeat first | exact Ext.refl _ | assumption | apply Ext.alloc | apply Ext.drewN | apply Ext.drew | apply Ext.grow | refine Ext.trans ?_ (by assumption)))⟩
  · by_cases hk : k = 1
    · subst hk
      rw [vsound_one]
      clear hf
      go_enter Tryz.func149, Tryz.ntmps149
      go_wp2_with fail
      all_goals (go_ret; exact ⟨ret_bool (by first | (simp [*]; done) | (simp_all; done)), (by with_reducible (repeat first | exact Ext.refl _ | assumption | apply Ext.alloc | apply Ext.drewN | apply Ext.drew | apply Ext.grow | refine Ext.trans ?_ (by assumption)))⟩)
    · by_cases hk : k = 4
      · subst hk
        go_enter Tryz.func149, Tryz.ntmps149
        go_wp2_with fail
        all_goals (go_ret; exact ⟨ret_bool (by simp [vsound, *]), (by with_reducible (repeat first | exact Ext.refl _ | assumption | apply Ext.alloc | apply Ext.drewN | apply Ext.drew | apply Ext.grow | refine Ext.trans ?_ (by assumption)))⟩)
      have k3 : (k == 3) = false := by simpa using ‹¬ k = 3›
      have k4 : (k == 4) = false := by simpa using hk
      have k1 : (k == 1) = false := by simpa using ‹¬ k = 1›
      go_enter Tryz.func149, Tryz.ntmps149
      go_wp2_with fail
      all_goals (go_ret; exact ⟨ret_bool (by simp [vsound, *]), (by with_reducible (repeat first | exact Ext.refl _ | assumption | apply Ext.alloc | apply Ext.drewN | apply Ext.drew | apply Ext.grow | refine Ext.trans ?_ (by assumption)))⟩)
theorem sign_icmp (x y : Int) : sgnB (decide (x < y)) (decide (y < x)) = icmp x y := by unfold icmp sgnB; simp
theorem bytes_cmp : ∀ x y : List UInt8, Lib.compareBytes x y = if Op.bytesLess x y = true then -1 else if x = y then 0 else 1
  | [], [] => by simp [Op.bytesLess, Lib.compareBytes]
  | _ :: _, [] => by simp [Op.bytesLess, Lib.compareBytes]
  | [], _ :: _ => by simp [Op.bytesLess, Lib.compareBytes]
  | a :: x, b :: y => by
    rw [Lib.compareBytes, Op.bytesLess, bytes_cmp x y]
    by_cases h1 : a < b
    · simp [h1]
    · by_cases h2 : b < a
      · have h3 : a ≠ b := by rintro rfl; exact h1 h2
        simp [h1, h2, h3]
      · have h3 : a = b := UInt8.le_antisymm (UInt8.not_lt.1 h2) (UInt8.not_lt.1 h1)
        subst h3
        simp
theorem scmp_less (a b : ByteArray) : scmp a b = if Op.bytesLess a.toList b.toList = true then -1 else if a.toList = b.toList then 0 else 1 := by
  unfold scmp
  rw [bytes_cmp, ByteArray.toList_eq, ByteArray.toList_eq]
set_option maxRecDepth 100000 in
set_option maxHeartbeats 1000000 in
theorem r1Compare_any (x y : GV) (w : World) (hx : x.Ok) (hy : y.Ok) :
    Calls Tryz.prog 150 #[.agg #[.int .i64 x.k, .int .i64 x.n, .int .u64 x.f, .string x.t], .agg #[.int .i64 y.k, .int .i64 y.n, .int .u64 y.f, .string y.t]] w fun e w' => e = .returned (.int .i64 (vcmp x y)) ∧ Ext w w' := by
  have mixed := mixed
  have s1 := fun W => r1Sound_any x W hx
  have s2 := fun W => r1Sound_any y W hy
  have pl : vsound x = true → vplain x.f = x.f := fun h => (vsound_parts h).1
  have pl2 : vsound y = true → vplain y.f = y.f := fun h => (vsound_parts h).1
  obtain ⟨k, n, f, t⟩ := x
  obtain ⟨k', n', f', t'⟩ := y
  simp only at *
  cases h1 : vsound ⟨k, n, f, t⟩
  · rw [h1] at s1
    have hv : vcmp ⟨k, n, f, t⟩ ⟨k', n', f', t'⟩ = 0 := by unfold vcmp; rw [if_pos (.inl h1)]
    rw [hv]
    clear hv h1 s2 hx hy pl pl2
    go_enter Tryz.func150, Tryz.ntmps150
    go_wp2_with (go_at_call 149; refine (s1 _).mono ?_; rintro e w1 ⟨rfl, hE⟩)
    go_ret
    exact ⟨rfl, (by with_reducible (repeat first | exact Ext.refl _ | assumption | apply Ext.alloc | apply Ext.drewN | apply Ext.drew | apply Ext.grow | refine Ext.trans ?_ (by assumption)))⟩
  cases h2 : vsound ⟨k', n', f', t'⟩
  · rw [h1] at s1; rw [h2] at s2
    have hv : vcmp ⟨k, n, f, t⟩ ⟨k', n', f', t'⟩ = 0 := by unfold vcmp; rw [if_pos (.inr h2)]
    rw [hv]
    clear hv h1 h2 hx hy pl pl2
    go_enter Tryz.func150, Tryz.ntmps150
    go_wp2_with fail
    refine (s1 _).mono ?_
    rintro e w1 ⟨rfl, hE⟩
    have V1 := ((ValAt.new w w.heap.size _ _ _ _ _ rfl).ext (Ext.alloc (Ext.refl _) _)).ext hE; have V2 := (ValAt.new _ (w.heap.size + 1) _ _ _ _ _ (by simp)).ext hE; obtain ⟨a10, a11, a12, a13⟩ := V1; obtain ⟨a20, a21, a22, a23⟩ := V2
    go_wp2_with fail
    refine (s2 _).mono ?_
    rintro e w2 ⟨rfl, hE2⟩
    go_wp2_with fail
    go_ret
    exact ⟨rfl, (by with_reducible (repeat first | exact Ext.refl _ | assumption | apply Ext.alloc | apply Ext.drewN | apply Ext.drew | apply Ext.grow | refine Ext.trans ?_ (by assumption)))⟩
  have hf := hx.f
  have hf' := hy.f
  have hpf := pl h1
  have hpf' := pl2 h2
  simp only at hf hf'
  rw [h1] at s1; rw [h2] at s2
  have hv : vcmp ⟨k, n, f, t⟩ ⟨k', n', f', t'⟩ = if k ≠ k' then icmp k k' else if k = 3 then icmp (rkey f) (rkey f') else if k = 4 then scmp t t' else icmp n n' := by
    unfold vcmp; rw [if_neg (by rw [h1, h2]; simp), rkey_cmp hf hf' hpf hpf']
  have q1 : ∀ z, (z = f ∨ z = f') → ∀ W, Calls Tryz.prog 197 #[.int .u64 z] W fun e w' => e = .returned (.int .u64 (rkey z)) ∧ W = w' := fun z hz W => r1key_any z (by rcases hz with rfl | rfl <;> assumption) W
  rw [hv]
  clear hv h1 h2 hx hy hf hf' hpf hpf' pl pl2
  by_cases hk : k = k'
  · subst hk
    rw [if_neg (by simp)]
    by_cases k3 : k = 3
    · subst k3
      rw [if_pos rfl]
      go_enter Tryz.func150, Tryz.ntmps150
      go_wp2_with fail
      refine (s1 _).mono ?_
      rintro e w1 ⟨rfl, hE⟩
      have V1 := ((ValAt.new w w.heap.size _ _ _ _ _ rfl).ext (Ext.alloc (Ext.refl _) _)).ext hE; have V2 := (ValAt.new _ (w.heap.size + 1) _ _ _ _ _ (by simp)).ext hE; obtain ⟨a10, a11, a12, a13⟩ := V1; obtain ⟨a20, a21, a22, a23⟩ := V2
      go_wp2_with fail
      refine (s2 _).mono ?_
      rintro e w2 ⟨rfl, hE2⟩
      have V1 := ValAt.ext ⟨a10, a11, a12, a13⟩ hE2; have V2 := ValAt.ext ⟨a20, a21, a22, a23⟩ hE2; clear a10 a11 a12 a13 a20 a21 a22 a23; obtain ⟨a10, a11, a12, a13⟩ := V1; obtain ⟨a20, a21, a22, a23⟩ := V2
      go_wp2_with fail
      go_big_quiet (first | (go_at_call 197; exact quiet_same (q1 _ (by first | exact .inl rfl | exact .inr rfl) _)) | (go_at_call 196; exact quiet_same (r1sign_any _ _ _)))
      go_wp2_with fail
      all_goals (go_ret; exact ⟨ret_int (sign_icmp _ _), (by with_reducible (repeat first | exact Ext.refl _ | assumption | apply Ext.alloc | apply Ext.drewN | apply Ext.drew | apply Ext.grow | refine Ext.trans ?_ (by assumption)))⟩)
    · rw [if_neg k3]
      have k3b : (k == 3) = false := by simpa using k3
      by_cases k4 : k = 4
      · subst k4
        rw [if_pos rfl]
        go_enter Tryz.func150, Tryz.ntmps150
        go_wp2_with fail
        refine (s1 _).mono ?_
        rintro e w1 ⟨rfl, hE⟩
        have V1 := ((ValAt.new w w.heap.size _ _ _ _ _ rfl).ext (Ext.alloc (Ext.refl _) _)).ext hE; have V2 := (ValAt.new _ (w.heap.size + 1) _ _ _ _ _ (by simp)).ext hE; obtain ⟨a10, a11, a12, a13⟩ := V1; obtain ⟨a20, a21, a22, a23⟩ := V2
        go_wp2_with fail
        refine (s2 _).mono ?_
        rintro e w2 ⟨rfl, hE2⟩
        have V1 := ValAt.ext ⟨a10, a11, a12, a13⟩ hE2; have V2 := ValAt.ext ⟨a20, a21, a22, a23⟩ hE2; clear a10 a11 a12 a13 a20 a21 a22 a23; obtain ⟨a10, a11, a12, a13⟩ := V1; obtain ⟨a20, a21, a22, a23⟩ := V2
        go_wp2_with (go_at_call 196; refine (r1sign_any _ _ _).mono ?_; rintro e w' ⟨rfl, rfl⟩)
        all_goals (go_ret; exact ⟨ret_int (by rw [scmp_less]; unfold sgnB; cases (Op.bytesLess t.toList t'.toList) <;> by_cases hh : t.toList = t'.toList <;> simp [hh]), (by with_reducible (repeat first | exact Ext.refl _ | assumption | apply Ext.alloc | apply Ext.drewN | apply Ext.drew | apply Ext.grow | refine Ext.trans ?_ (by assumption)))⟩)
      · rw [if_neg k4]
        have k4b : (k == 4) = false := by simpa using k4
        go_enter Tryz.func150, Tryz.ntmps150
        go_wp2_with fail
        refine (s1 _).mono ?_
        rintro e w1 ⟨rfl, hE⟩
        have V1 := ((ValAt.new w w.heap.size _ _ _ _ _ rfl).ext (Ext.alloc (Ext.refl _) _)).ext hE; have V2 := (ValAt.new _ (w.heap.size + 1) _ _ _ _ _ (by simp)).ext hE; obtain ⟨a10, a11, a12, a13⟩ := V1; obtain ⟨a20, a21, a22, a23⟩ := V2
        go_wp2_with fail
        refine (s2 _).mono ?_
        rintro e w2 ⟨rfl, hE2⟩
        have V1 := ValAt.ext ⟨a10, a11, a12, a13⟩ hE2; have V2 := ValAt.ext ⟨a20, a21, a22, a23⟩ hE2; clear a10 a11 a12 a13 a20 a21 a22 a23; obtain ⟨a10, a11, a12, a13⟩ := V1; obtain ⟨a20, a21, a22, a23⟩ := V2
        go_wp2_with (go_at_call 196; refine (r1sign_any _ _ _).mono ?_; rintro e w' ⟨rfl, rfl⟩)
        all_goals (go_ret; exact ⟨ret_int (sign_icmp _ _), (by with_reducible (repeat first | exact Ext.refl _ | assumption | apply Ext.alloc | apply Ext.drewN | apply Ext.drew | apply Ext.grow | refine Ext.trans ?_ (by assumption)))⟩)
  · rw [if_pos hk]
    have hkb : (k != k') = true := by simpa using hk
    go_enter Tryz.func150, Tryz.ntmps150
    go_wp2_with fail
    refine (s1 _).mono ?_
    rintro e w1 ⟨rfl, hE⟩
    have V1 := ((ValAt.new w w.heap.size _ _ _ _ _ rfl).ext (Ext.alloc (Ext.refl _) _)).ext hE; have V2 := (ValAt.new _ (w.heap.size + 1) _ _ _ _ _ (by simp)).ext hE; obtain ⟨a10, a11, a12, a13⟩ := V1; obtain ⟨a20, a21, a22, a23⟩ := V2
    go_wp2_with fail
    refine (s2 _).mono ?_
    rintro e w2 ⟨rfl, hE2⟩
    have V1 := ValAt.ext ⟨a10, a11, a12, a13⟩ hE2; have V2 := ValAt.ext ⟨a20, a21, a22, a23⟩ hE2; clear a10 a11 a12 a13 a20 a21 a22 a23; obtain ⟨a10, a11, a12, a13⟩ := V1; obtain ⟨a20, a21, a22, a23⟩ := V2
    go_wp2_with (go_at_call 196; refine (r1sign_any _ _ _).mono ?_; rintro e w' ⟨rfl, rfl⟩)
    all_goals (go_ret; exact ⟨ret_int (sign_icmp _ _), (by with_reducible (repeat first | exact Ext.refl _ | assumption | apply Ext.alloc | apply Ext.drewN | apply Ext.drew | apply Ext.grow | refine Ext.trans ?_ (by assumption)))⟩)
end Go.Proofs.YtflckpfpgpfjlaaGreatDoor
end
section
namespace Go.Proofs.YtflckpfpgpfjlaaGreatDoor
open Go.RowKit Go.Sort
structure GT where
  row : List GV
  high : Int
  low : Int
def GT.sum (t : GT) : Int := t.high * 2147483648 + t.low
def newT (x : GE) : GT := ⟨x.row, x.w / 2147483648, x.w % 2147483648⟩
def addT (t : GT) (x : GE) : GT := ⟨t.row, t.high + x.w / 2147483648, t.low + x.w % 2147483648⟩
theorem newT_sum (x : GE) : (newT x).sum = x.w := by unfold GT.sum newT; simp only; omega
theorem addT_sum (t : GT) (x : GE) : (addT t x).sum = t.sum + x.w := by unfold GT.sum addT; simp only; omega
def insT : List GT → GE → List GT
  | [], x => [newT x]
  | t :: ts, x => if rlex t.row x.row < 0 then t :: insT ts x else if rlex t.row x.row = 0 then addT t x :: ts else newT x :: t :: ts
def zt (ts : List GT) (r : List GV) : Int := sumI (fun t => if sameR t.row r = true then t.sum else 0) ts
theorem zt_nil (r : List GV) : zt [] r = 0 := rfl
theorem zt_cons (t : GT) (ts : List GT) (r : List GV) : zt (t :: ts) r = (if sameR t.row r = true then t.sum else 0) + zt ts r := rfl
structure TInv (p : List GE) (ts : List GT) : Prop where
  rise : ts.Pairwise fun a b => rlex a.row b.row < 0
  row : ∀ t ∈ ts, RowOk t.row
  mem : ∀ t ∈ ts, ∃ y ∈ p, y.row = t.row
  sum : ∀ r, zt ts r = zw p r
  low : ∀ t ∈ ts, 0 ≤ t.low ∧ t.low ≤ p.length * 2147483647
  high : ∀ t ∈ ts, -(p.length * 2147483648 : Int) ≤ t.high ∧ t.high ≤ p.length * 2147483648
  len : ts.length ≤ p.length
theorem TInv.nil : TInv [] [] := ⟨List.Pairwise.nil, by simp, by simp, fun r => rfl, by simp, by simp, by simp⟩
theorem rlex_row {a b : List GV} (ha : RowOk a) (hb : RowOk b) (h : rlex a b = 0) : a = b := rlex_eq ha.2 hb.2 (rsound_at ha.1).2 (rsound_at hb.1).2 h
theorem insT_mem {x : GE} (hx : RowOk x.row) : ∀ {ts : List GT}, (∀ t ∈ ts, RowOk t.row) → ∀ t ∈ insT ts x, t ∈ ts ∨ t = newT x ∨ ∃ s ∈ ts, s.row = x.row ∧ t = addT s x
  | [], _, t, ht => by
    rw [insT, List.mem_singleton] at ht
    exact .inr (.inl ht)
  | s :: ts, hr, t, ht => by
    rw [insT] at ht
    split at ht
    · rcases List.mem_cons.1 ht with rfl | ht
      · exact .inl (by simp)
      · rcases insT_mem hx (fun t ht => hr t (by simp [ht])) t ht with h | h | ⟨s', h1, h2⟩
        · exact .inl (by simp [h])
        · exact .inr (.inl h)
        · exact .inr (.inr ⟨s', by simp [h1], h2⟩)
    · split at ht
      · next h0 =>
        rcases List.mem_cons.1 ht with rfl | ht
        · exact .inr (.inr ⟨s, by simp, rlex_row (hr s (by simp)) hx h0, rfl⟩)
        · exact .inl (by simp [ht])
      · rcases List.mem_cons.1 ht with rfl | ht
        · exact .inr (.inl rfl)
        · exact .inl ht
theorem insT_rise {x : GE} (hx : RowOk x.row) : ∀ {ts : List GT}, (∀ t ∈ ts, RowOk t.row) → (ts.Pairwise fun a b => rlex a.row b.row < 0) → (insT ts x).Pairwise fun a b => rlex a.row b.row < 0
  | [], _, _ => List.pairwise_singleton _ _
  | s :: ts, hr, hp => by
    obtain ⟨h1, h2⟩ := List.pairwise_cons.1 hp
    rw [insT]
    split
    · next h =>
      refine List.pairwise_cons.2 ⟨fun t ht => ?_, insT_rise hx (fun t ht => hr t (by simp [ht])) h2⟩
      rcases insT_mem hx (fun t ht => hr t (by simp [ht])) t ht with h' | rfl | ⟨s', h', _, rfl⟩
      · exact h1 t h'
      · exact h
      · exact h1 s' h'
    · next hn =>
      split
      · exact List.pairwise_cons.2 ⟨fun t ht => h1 t ht, h2⟩
      · next h0 =>
        have hlt : rlex x.row s.row < 0 := by
          have := (rlex_cmp.flip x.row s.row)
          omega
        refine List.pairwise_cons.2 ⟨fun t ht => ?_, hp⟩
        rcases List.mem_cons.1 ht with rfl | ht
        · exact hlt
        · exact rlex_cmp.lt_trans hlt (h1 t ht)
theorem insT_zt {x : GE} (hx : RowOk x.row) (r : List GV) : ∀ {ts : List GT}, (∀ t ∈ ts, RowOk t.row) → zt (insT ts x) r = zt ts r + if sameR x.row r = true then x.w else 0
  | [], _ => by
    rw [insT, zt_cons, zt_nil, newT_sum]
    show (if sameR x.row r = true then x.w else 0) + 0 = _
    omega
  | s :: ts, hr => by
    rw [insT]
    split
    · rw [zt_cons, zt_cons, insT_zt hx r fun t ht => hr t (by simp [ht])]
      omega
    · split
      · next h0 =>
        rw [zt_cons, zt_cons, addT_sum, ← rlex_row (hr s (by simp)) hx h0]
        show (if sameR s.row r = true then s.sum + x.w else 0) + _ = _
        split <;> omega
      · rw [zt_cons, newT_sum]
        show (if sameR x.row r = true then x.w else 0) + _ = _
        omega
theorem insT_len (x : GE) : ∀ ts : List GT, (insT ts x).length ≤ ts.length + 1
  | [] => by simp [insT]
  | s :: ts => by
    have := insT_len x ts
    rw [insT]
    split
    · simp only [List.length_cons]; omega
    · split <;> simp
theorem TInv.step {p : List GE} {ts : List GT} (h : TInv p ts) {x : GE} (hx : RowOk x.row) (hf : fair x.w = true) : TInv (p ++ [x]) (insT ts x) := by
  have hw : -4611686018427387904 ≤ x.w ∧ x.w ≤ 4611686018427387904 := by
    unfold fair at hf
    simpa using hf
  have hlen : ((p ++ [x]).length : Int) = p.length + 1 := by rw [List.length_append]; rfl
  refine ⟨insT_rise hx h.row h.rise, fun t ht => ?_, fun t ht => ?_, fun r => ?_, fun t ht => ?_, fun t ht => ?_, ?_⟩
  · rcases insT_mem hx h.row t ht with h1 | rfl | ⟨s, h1, h2, rfl⟩
    · exact h.row t h1
    · exact hx
    · exact h.row s h1
  · rcases insT_mem hx h.row t ht with h1 | rfl | ⟨s, h1, h2, rfl⟩
    · obtain ⟨y, h3, h4⟩ := h.mem t h1
      exact ⟨y, by simp [h3], h4⟩
    · exact ⟨x, by simp, rfl⟩
    · exact ⟨x, by simp, h2.symm⟩
  · rw [insT_zt hx r h.row, h.sum, zw_app, zw_cons, zw_nil]; omega
  · rw [hlen]
    rcases insT_mem hx h.row t ht with h1 | rfl | ⟨s, h1, h2, rfl⟩
    · have := h.low t h1; omega
    · unfold newT; simp only; omega
    · have := h.low s h1; unfold addT; simp only; omega
  · rw [hlen]
    rcases insT_mem hx h.row t ht with h1 | rfl | ⟨s, h1, h2, rfl⟩
    · have := h.high t h1; omega
    · unfold newT; simp only; omega
    · have := h.high s h1; unfold addT; simp only; omega
  · have := insT_len x ts
    have := h.len
    rw [List.length_append]; simp; omega
theorem insT_at {x : GE} : ∀ {ts : List GT} {k : Nat}, k ≤ ts.length → (∀ (i : Nat) (t : GT), i < k → ts[i]? = some t → rlex t.row x.row < 0) → insT ts x = ts.take k ++ insT (ts.drop k) x
  | ts, 0, _, _ => by simp
  | [], k + 1, h, _ => by simp at h
  | s :: ts, k + 1, h, hb => by
    rw [insT, if_pos (hb 0 s (by omega) rfl), insT_at (k := k) (by simpa using h) fun i t hi ht => hb (i + 1) t (by omega) (by simpa using ht)]
    rfl
theorem insT_end {x : GE} {ts : List GT} (hb : ∀ (i : Nat) (t : GT), i < ts.length → ts[i]? = some t → rlex t.row x.row < 0) : insT ts x = ts ++ [newT x] := by
  rw [insT_at (Nat.le_refl _) hb]
  simp [insT]
theorem insT_hit {x : GE} {ts : List GT} {k : Nat} {t : GT} (ht : ts[k]? = some t) (hb : ∀ (i : Nat) (t : GT), i < k → ts[i]? = some t → rlex t.row x.row < 0) (h0 : rlex t.row x.row = 0) : insT ts x = ts.set k (addT t x) := by
  obtain ⟨hk, rfl⟩ := List.getElem?_eq_some_iff.1 ht
  rw [insT_at (by omega) hb, List.drop_eq_getElem_cons hk, insT, if_neg (by omega), if_pos h0, List.set_eq_take_append_cons_drop, if_pos hk]
theorem insT_new {x : GE} {ts : List GT} {k : Nat} {t : GT} (ht : ts[k]? = some t) (hb : ∀ (i : Nat) (t : GT), i < k → ts[i]? = some t → rlex t.row x.row < 0) (h0 : 0 < rlex t.row x.row) : insT ts x = ts.take k ++ newT x :: ts.drop k := by
  obtain ⟨hk, rfl⟩ := List.getElem?_eq_some_iff.1 ht
  rw [insT_at (by omega) hb]
  conv => lhs; rw [List.drop_eq_getElem_cons hk]
  rw [insT, if_neg (by omega), if_neg (by omega), List.drop_eq_getElem_cons hk]
theorem shift_set {α : Type} {xs : List α} {z x : α} {k : Nat} (hk : k ≤ xs.length) : ((xs ++ [z]).take (k + 1) ++ ((xs ++ [z]).drop k).take (xs.length - k) ++ (xs ++ [z]).drop (k + 1 + (xs.length - k))).set k x = xs.take k ++ x :: xs.drop k := by
  apply List.ext_getElem?
  intro i
  simp only [List.getElem?_set, List.getElem?_append, List.getElem?_take, List.getElem?_drop, List.length_take, List.length_drop, List.length_append, List.length_singleton, List.getElem?_cons]
  repeat' split
  all_goals first | rfl | omega | (congr 1; omega) | skip
  all_goals simp_all
  all_goals first | rfl | omega | (congr 1; omega) | skip
def outT (ts : List GT) : List GE := (ts.filter fun t => t.sum != 0).map fun t => ⟨t.row, t.sum⟩
theorem outT_cons (t : GT) (ts : List GT) : outT (t :: ts) = if t.sum = 0 then outT ts else ⟨t.row, t.sum⟩ :: outT ts := by
  unfold outT
  by_cases h : t.sum = 0 <;> simp [h]
theorem outT_snoc (ts : List GT) (t : GT) : outT (ts ++ [t]) = if t.sum = 0 then outT ts else outT ts ++ [⟨t.row, t.sum⟩] := by
  unfold outT
  by_cases h : t.sum = 0 <;> simp [h]
theorem outT_len (ts : List GT) : (outT ts).length ≤ ts.length := by
  unfold outT
  rw [List.length_map]
  exact List.length_filter_le _ _
theorem outT_zw (ts : List GT) (r : List GV) : zw (outT ts) r = zt ts r := by
  induction ts with
  | nil => rfl
  | cons t ts ih =>
    rw [outT_cons, zt_cons, ← ih]
    split
    · next h => rw [h]; split <;> omega
    · rw [zw_cons]
theorem zt_at {ts : List GT} (h : ts.Pairwise fun a b => rlex a.row b.row < 0) {t : GT} (ht : t ∈ ts) : zt ts t.row = t.sum := by
  have none : ∀ {us : List GT} {r : List GV}, (∀ u ∈ us, u.row ≠ r) → zt us r = 0 := by
    intro us r hu
    induction us with
    | nil => rfl
    | cons u us ih =>
      rw [zt_cons, if_neg fun e => hu u (by simp) ((sameR_eq _ _).1 e), ih fun v hv => hu v (by simp [hv])]
      rfl
  induction ts with
  | nil => cases ht
  | cons s ts ih =>
    obtain ⟨h1, h2⟩ := List.pairwise_cons.1 h
    rw [zt_cons]
    rcases List.mem_cons.1 ht with rfl | ht
    · rw [if_pos ((sameR_eq _ _).2 rfl), none fun u hu => (rlex_ne (h1 u hu)).symm]
      omega
    · rw [if_neg fun e => rlex_ne (h1 t ht) ((sameR_eq _ _).1 e), ih h2 ht]
      omega
theorem zt_fair {ts : List GT} (h : ts.Pairwise fun a b => rlex a.row b.row < 0) (hf : ∀ t ∈ ts, fair t.sum = true) (r : List GV) : fair (zt ts r) = true := by
  by_cases hx : ∃ t ∈ ts, t.row = r
  · obtain ⟨t, ht, rfl⟩ := hx
    rw [zt_at h ht]; exact hf t ht
  · have : zt ts r = 0 := by
      rw [← outT_zw]
      refine zw_none fun x hm e => hx ?_
      unfold outT at hm
      obtain ⟨t, h1, rfl⟩ := List.mem_map.1 hm
      exact ⟨t, (List.mem_filter.1 h1).1, e⟩
    rw [this]; rfl
theorem TInv.over {l : List GE} {ts : List GT} (h : TInv l ts) {t : GT} (ht : t ∈ ts) (hf : fair t.sum = false) : overL l = true := by
  obtain ⟨y, hy, e⟩ := h.mem t ht
  unfold overL
  rw [List.any_eq_true]
  exact ⟨y, hy, by rw [e, ← h.sum, zt_at h.rise ht, hf]; rfl⟩
theorem TInv.notOver {l : List GE} {ts : List GT} (h : TInv l ts) (hf : ∀ t ∈ ts, fair t.sum = true) : overL l = false := by
  unfold overL
  rw [List.any_eq_false]
  intro x hx
  rw [← h.sum, zt_fair h.rise hf]
  simp
theorem TInv.made {l : List GE} {ts : List GT} (h : TInv l ts) (hf : ∀ t ∈ ts, fair t.sum = true) : Made l (outT ts) where
  ok := by
    refine ⟨fun x hx => ?_, fun x hx => ?_, ?_⟩
    · obtain ⟨t, h1, rfl⟩ := List.mem_map.1 hx
      exact h.row t (List.mem_filter.1 h1).1
    · obtain ⟨t, h1, rfl⟩ := List.mem_map.1 hx
      simpa using (List.mem_filter.1 h1).2
    · exact List.pairwise_map.2 (h.rise.sublist List.filter_sublist)
  fz := fun x hx => by
    obtain ⟨t, h1, rfl⟩ := List.mem_map.1 hx
    exact hf t (List.mem_filter.1 h1).1
  sum := fun r => by rw [outT_zw, h.sum]
end Go.Proofs.YtflckpfpgpfjlaaGreatDoor
end
section
namespace Go.Proofs.YtflckpfpgpfjlaaGreatDoor
open Go.RowKit Go.Sort
theorem rsound_no {r : List GV} {k : Nat} {x : GV} (hx : r[k]? = some x) (h : vsound x = false) : rsound r = false := by
  unfold rsound
  have : (r.any fun x => !vsound x) = true := List.any_eq_true.2 ⟨x, List.mem_of_getElem? hx, by rw [h]; rfl⟩
  rw [this]; simp
theorem rsound_yes {r : List GV} (hl : r.length ≤ 1024) (h : ∀ (i : Nat) (x : GV), r[i]? = some x → vsound x = true) : rsound r = true := by
  unfold rsound
  rw [decide_eq_true hl, Bool.true_and, Bool.not_eq_true', List.any_eq_false]
  intro x hx
  obtain ⟨i, hi⟩ := List.mem_iff_getElem?.1 hx
  rw [h i x hi]; simp
set_option maxRecDepth 100000 in
set_option maxHeartbeats 2000000 in
theorem r2Sound_any (v : Value) (r : List GV) (w : World) (hr : RdV w AnyB v r) :
    Calls Tryz.prog 92 #[v] w fun e w' => e = .returned (.bool (rsound r)) ∧ Ext w w' := by
  have mixed := mixed
  obtain ⟨A, c, rfl, hc⟩ := hr.shape
  have hl := hr.len
  have HR := As.mk hr
  clear hr
  go_enter Tryz.func92, Tryz.ntmps92
  go_wp2
  go_loopg [3] r.length (fun g s3 wr => ∃ k : Nat, k ≤ r.length ∧ k ≤ 1024 ∧ r.length - k ≤ g ∧ s3 = .int .i64 k ∧ As (Ext w wr) ∧ As (∀ i y, i < k → r[i]? = some y → vsound y = true))
  case atStart => exact ⟨0, Nat.zero_le _, by omega, by omega, by go_num, ⟨Ext.refl _⟩, ⟨fun i y hi => absurd hi (Nat.not_lt_zero _)⟩⟩
  case round =>
    obtain ⟨k, hk, hk2, hg, rfl, HE, HA⟩ := hrel
    by_cases hlt : k < r.length
    · have hltz : (k : Int) < (r.length : Int) := by omega
      obtain ⟨x, hx⟩ : ∃ x, r[k]? = some x := ⟨_, List.getElem?_eq_getElem hlt⟩
      obtain ⟨b, o, c', hv, hb, hok, c0, c1, c2, c3⟩ := RdV.val HR.out hx
      injection hv with hA _ hcc
      subst hA
      replace c0 := HE.out.cell c0; replace c1 := HE.out.cell c1; replace c2 := HE.out.cell c2; replace c3 := HE.out.cell c3
      have s1 := fun W => r1Sound_any x W hok
      have HX := As.mk hx
      have hE0 := HE.out
      clear hx hcc hok
      by_cases h1k : 1024 ≤ k
      · have hz : decide ((1024 : Int) ≤ (k : Int)) = true := decide_eq_true (by omega)
        have HF : As (rsound r = false) := ⟨by unfold rsound; rw [decide_eq_false (by omega)]; rfl⟩
        go_wp2
        go_ret
        exact ⟨ret_bool HF.out.symm, (by with_reducible (repeat first | exact Ext.refl _ | assumption | apply Ext.alloc | apply Ext.drewN | apply Ext.drew | apply Ext.grow | refine Ext.trans ?_ (by assumption)))⟩
      · have hz : decide ((1024 : Int) ≤ (k : Int)) = false := decide_eq_false (by omega)
        cases hs : vsound x
        · rw [hs] at s1
          have HF : As (rsound r = false) := ⟨rsound_no HX.out hs⟩
          clear hs
          go_wp2_with (go_at_call 149; refine (s1 _).mono ?_; rintro e w1 ⟨rfl, hE⟩)
          go_ret
          exact ⟨ret_bool HF.out.symm, (by with_reducible (repeat first | exact Ext.refl _ | assumption | apply Ext.alloc | apply Ext.drewN | apply Ext.drew | apply Ext.grow | refine Ext.trans ?_ (by assumption)))⟩
        · rw [hs] at s1
          have HS := As.mk hs
          clear hs
          go_wp2_with (go_at_call 149; refine (s1 _).mono ?_; rintro e w1 ⟨rfl, hE⟩)
          go_roundg (r.length - (k + 1))
          case measure => omega
          case rel =>
            refine ⟨k + 1, by omega, by omega, by omega, by go_num, ⟨(by with_reducible (repeat first | exact Ext.refl _ | assumption | apply Ext.alloc | apply Ext.drewN | apply Ext.drew | apply Ext.grow | refine Ext.trans ?_ (by assumption)))⟩, ⟨fun i y hi hy => ?_⟩⟩
            by_cases e : i = k
            · subst e; rw [HX.out] at hy; injection hy with hy; subst hy; exact HS.out
            · exact HA.out i y (by omega) hy
    · have hltz : ¬ (k : Int) < (r.length : Int) := by omega
      go_wp2
      go_ret
      exact ⟨ret_bool (rsound_yes (by omega) fun i y hy => HA.out i y (by have := (List.getElem?_eq_some_iff.1 hy).1; omega) hy).symm, HE.out⟩
theorem rcmp_at {r s : List GV} (h1 : rsound r = true) (h2 : rsound s = true) : rcmp r s = rcmp0 r s := by unfold rcmp; rw [if_neg (by rw [h1, h2]; simp)]
set_option maxRecDepth 100000 in
set_option maxHeartbeats 2000000 in
theorem r2Compare_any (v u : Value) (r s : List GV) (w : World) (hr : RdV w AnyB v r) (hs : RdV w AnyB u s) :
    Calls Tryz.prog 93 #[v, u] w fun e w' => e = .returned (.int .i64 (rcmp r s)) ∧ Ext w w' := by
  have mixed := mixed
  obtain ⟨A, c, rfl, hc⟩ := hr.shape
  obtain ⟨B, d, rfl, hd⟩ := hs.shape
  have hl := hr.len
  have hm := hs.len
  have HR := As.mk hr
  have HS := As.mk hs
  have s1 := fun W (hE : Ext w W) => r2Sound_any _ r W (HR.out.ext hE.below)
  have s2 := fun W (hE : Ext w W) => r2Sound_any _ s W (HS.out.ext hE.below)
  clear hr hs
  cases h1 : rsound r
  · rw [h1] at s1
    have hv : rcmp r s = 0 := by unfold rcmp; rw [if_pos (.inl h1)]
    rw [hv]
    clear hv h1 s2
    go_enter Tryz.func93, Tryz.ntmps93
    go_wp2_with (go_at_call 92; refine (s1 _ (by with_reducible (repeat first | exact Ext.refl _ | assumption | apply Ext.alloc | apply Ext.drewN | apply Ext.drew | apply Ext.grow | refine Ext.trans ?_ (by assumption)))).mono ?_; rintro e w1 ⟨rfl, hE⟩)
    go_ret
    exact ⟨rfl, (by with_reducible (repeat first | exact Ext.refl _ | assumption | apply Ext.alloc | apply Ext.drewN | apply Ext.drew | apply Ext.grow | refine Ext.trans ?_ (by assumption)))⟩
  cases h2 : rsound s
  · rw [h1] at s1; rw [h2] at s2
    have hv : rcmp r s = 0 := by unfold rcmp; rw [if_pos (.inr h2)]
    rw [hv]
    clear hv h1 h2
    go_enter Tryz.func93, Tryz.ntmps93
    go_wp2_with fail
    refine (s1 _ (by with_reducible (repeat first | exact Ext.refl _ | assumption | apply Ext.alloc | apply Ext.drewN | apply Ext.drew | apply Ext.grow | refine Ext.trans ?_ (by assumption)))).mono ?_
    rintro e w1 ⟨rfl, hE⟩
    go_wp2_with fail
    refine (s2 _ (by with_reducible (repeat first | exact Ext.refl _ | assumption | apply Ext.alloc | apply Ext.drewN | apply Ext.drew | apply Ext.grow | refine Ext.trans ?_ (by assumption)))).mono ?_
    rintro e w2 ⟨rfl, hE2⟩
    go_wp2_with fail
    go_ret
    exact ⟨rfl, (by with_reducible (repeat first | exact Ext.refl _ | assumption | apply Ext.alloc | apply Ext.drewN | apply Ext.drew | apply Ext.grow | refine Ext.trans ?_ (by assumption)))⟩
  rw [h1] at s1; rw [h2] at s2
  rw [rcmp_at h1 h2]
  clear h1 h2
  go_enter Tryz.func93, Tryz.ntmps93
  go_wp2_with fail
  refine (s1 _ (by with_reducible (repeat first | exact Ext.refl _ | assumption | apply Ext.alloc | apply Ext.drewN | apply Ext.drew | apply Ext.grow | refine Ext.trans ?_ (by assumption)))).mono ?_
  rintro e w1 ⟨rfl, hE⟩
  go_wp2_with fail
  refine (s2 _ (by with_reducible (repeat first | exact Ext.refl _ | assumption | apply Ext.alloc | apply Ext.drewN | apply Ext.drew | apply Ext.grow | refine Ext.trans ?_ (by assumption)))).mono ?_
  rintro e w2 ⟨rfl, hE2⟩
  have HE2 := As.mk (Ext.trans hE hE2)
  clear hE hE2 s1 s2
  go_wp2_with fail
  go_loopg [5, 6] r.length (fun g s5 _ wr => ∃ k : Nat, k ≤ r.length ∧ k ≤ s.length ∧ r.length - k ≤ g ∧ s5 = .int .i64 k ∧ As (Ext w wr) ∧ As (rcmp0 (r.drop k) (s.drop k) = rcmp0 r s))
  case atStart => exact ⟨0, Nat.zero_le _, Nat.zero_le _, by omega, by go_num, HE2, ⟨rfl⟩⟩
  case round =>
    obtain ⟨k, hk, hks, hg, rfl, HE, HA⟩ := hrel
    by_cases hlt : k < r.length
    · have hltz : (k : Int) < (r.length : Int) := by omega
      by_cases hlt2 : k < s.length
      · have hltz3 : (k : Int) < (s.length : Int) := by omega
        obtain ⟨x, hx⟩ : ∃ x, r[k]? = some x := ⟨_, List.getElem?_eq_getElem hlt⟩
        obtain ⟨b, o, c', hv, hb, hok, c0, c1, c2, c3⟩ := RdV.val HR.out hx
        injection hv with hA _ hcc
        subst hA
        replace c0 := HE.out.cell c0; replace c1 := HE.out.cell c1; replace c2 := HE.out.cell c2; replace c3 := HE.out.cell c3
        obtain ⟨y, hy⟩ : ∃ y, s[k]? = some y := ⟨_, List.getElem?_eq_getElem hlt2⟩
        obtain ⟨b2, o2, c2', hv2, hb2, hok2, d0, d1, d2, d3⟩ := RdV.val HS.out hy
        injection hv2 with hA2 _ hcc2
        subst hA2
        replace d0 := HE.out.cell d0; replace d1 := HE.out.cell d1; replace d2 := HE.out.cell d2; replace d3 := HE.out.cell d3
        have gc0 := gc c0; have gc1 := gc c1; have gc2 := gc c2; have gc3 := gc c3
        have gd0 := gc d0; have gd1 := gc d1; have gd2 := gc d2; have gd3 := gc d3
        have q1 := fun W => r1Compare_any x y W hok hok2
        have HD := As.mk (rcmp0_drop r s k x y hx hy)
        clear hx hy hcc hcc2 hok hok2 hb hb2
        generalize vcmp x y = q at *
        have hE0 := HE.out
        by_cases hq : q = 0
        · subst hq
          go_wp2
          (refine wp_region_quiet_grown (by assumption) (by kernel_rfl) ?_; (repeat (go_big_quiet_step ( (go_at_call 150; exact grown_ext (q1 _)) ))); refine wpQuiet_nil ?_; intro _ hw'; obtain ⟨⟨nq, osq⟩, hw''⟩ := hw'; subst hw'')
          go_wp2
          go_roundg (r.length - (k + 1))
          case measure => omega
          case rel =>
            have HF : As (rcmp0 (r.drop (k + 1)) (s.drop (k + 1)) = rcmp0 r s) := ⟨by rw [← HA.out, HD.out]; simp⟩
            exact ⟨k + 1, by omega, by omega, by omega, by go_num, ⟨(by with_reducible (repeat first | exact Ext.refl _ | assumption | apply Ext.alloc | apply Ext.drewN | apply Ext.drew | apply Ext.grow | refine Ext.trans ?_ (by assumption)))⟩, HF⟩
        · have hqb : (q != 0) = true := by simpa using hq
          go_wp2
          (refine wp_region_quiet_grown (by assumption) (by kernel_rfl) ?_; (repeat (go_big_quiet_step ( (go_at_call 150; exact grown_ext (q1 _)) ))); refine wpQuiet_nil ?_; intro _ hw'; obtain ⟨⟨nq, osq⟩, hw''⟩ := hw'; subst hw'')
          go_wp2
          go_ret
          exact ⟨ret_int (by rw [← HA.out, HD.out, if_pos hq]), (by with_reducible (repeat first | exact Ext.refl _ | assumption | apply Ext.alloc | apply Ext.drewN | apply Ext.drew | apply Ext.grow | refine Ext.trans ?_ (by assumption)))⟩
      · have hltz2 : ¬ (k : Int) < (s.length : Int) := by omega
        have h3z : ¬ (r.length : Int) < (s.length : Int) := by omega
        have h4z : (s.length : Int) < (r.length : Int) := by omega
        have HD := As.mk (rcmp0_short r s k hlt (by omega))
        go_wp2
        go_ret
        exact ⟨ret_int (by rw [← HA.out, HD.out]), HE.out⟩
    · have hltz : ¬ (k : Int) < (r.length : Int) := by omega
      obtain rfl : k = r.length := by omega
      have HD := As.mk (rcmp0_end r s hks)
      by_cases h3 : r.length < s.length
      · have h3z : (r.length : Int) < (s.length : Int) := by omega
        go_wp2
        go_ret
        exact ⟨ret_int (by rw [← HA.out, HD.out, if_pos h3]), HE.out⟩
      · have h3z : ¬ (r.length : Int) < (s.length : Int) := by omega
        have h4z : ¬ (s.length : Int) < (r.length : Int) := by omega
        go_wp2
        go_ret
        exact ⟨ret_int (by rw [← HA.out, HD.out, if_neg h3]), HE.out⟩
end Go.Proofs.YtflckpfpgpfjlaaGreatDoor
end
section
namespace Go.Proofs.YtflckpfpgpfjlaaGreatDoor
open Go.RowKit Go.Sort
theorem r3fair_any (n : Int) (w : World) : Calls Tryz.prog 91 #[.int .i64 n] w fun e w' => e = .returned (.bool (fair n)) ∧ w = w' := by
  go_enter Tryz.func91, Tryz.ntmps91
  go_wp2
  all_goals (go_ret; exact ⟨ret_bool (by unfold fair; rw [Bool.eq_iff_iff]; simp; try omega), rfl⟩)
set_option maxRecDepth 100000 in
set_option maxHeartbeats 4000000 in
theorem r3Sound_any (v : Value) (z : List GE) (w : World) (hz : RdZ w AnyB v z) :
    Calls Tryz.prog 45 #[v] w fun e w' => e = .returned (.bool (zsound z)) ∧ Ext w w' := by
  have mixed := mixed
  obtain ⟨A, c, rfl, hc⟩ := hz.shape
  have hl := hz.len
  have HR := As.mk hz
  clear hz
  go_enter Tryz.func45, Tryz.ntmps45
  go_wp2
  go_loopg [3] z.length (fun g s3 wr => ∃ k : Nat, k ≤ z.length ∧ z.length - k ≤ g ∧ s3 = .int .i64 k ∧ As (Ext w wr) ∧ As (zsound0 (prev z k) (z.drop k) = zsound z))
  case atStart => exact ⟨0, Nat.zero_le _, by omega, by go_num, ⟨Ext.refl _⟩, ⟨rfl⟩⟩
  case round =>
    obtain ⟨k, hk, hg, rfl, HE, HA⟩ := hrel
    by_cases hlt : k < z.length
    · have hltz : (k : Int) < (z.length : Int) := by omega
      obtain ⟨x, hx⟩ : ∃ x, z[k]? = some x := ⟨_, List.getElem?_eq_getElem hlt⟩
      have HX := As.mk hx
      have HS := As.mk (zsound0_step z k x hx)
      obtain ⟨b, o, c', A0, d0, hv, hb, hxi, hrx, e0, e1⟩ := RdZ.ent HR.out hx
      injection hv with hA _ hcc
      subst hA
      replace e0 := HE.out.cell e0; replace e1 := HE.out.cell e1
      have ge0 := gc e0; have ge1 := gc e1
      have HRX := As.mk hrx
      clear hx hcc hrx
      obtain ⟨xr, xw⟩ := x
      simp only at *
      have hE0 := HE.out
      have f1 := fun W => r3fair_any xw W
      have f2 := fun W (hE : Ext w W) => r2Sound_any _ xr W (HRX.out.ext hE.below)
      have HS' : As (zsound z = ((!(xw == 0) && fair xw && rsound xr && (match prev z k with | none => true | some y => decide (rcmp y.row xr < 0))) && zsound0 (prev z (k + 1)) (z.drop (k + 1)))) := ⟨by rw [← HA.out, HS.out]; rfl⟩
      clear HS
      generalize hfx : fair xw = fx at *
      generalize hrx : rsound xr = rx at *
      clear hfx hrx
      by_cases h0 : xw = 0
      · subst h0
        go_wp2
        (refine wp_region_quiet_grown (by assumption) (by kernel_rfl) ?_; (repeat (go_big_quiet_step ( fail ))); refine wpQuiet_nil ?_; intro _ hw'; obtain ⟨⟨nq, osq⟩, hw''⟩ := hw'; subst hw'')
        go_wp2
        go_ret
        exact ⟨ret_bool (by rw [HS'.out]; simp), (by with_reducible (repeat first | exact Ext.refl _ | assumption | apply Ext.alloc | apply Ext.drewN | apply Ext.drew | apply Ext.grow | refine Ext.trans ?_ (by assumption)))⟩
      have h0b : (xw == 0) = false := by simpa using h0
      cases fx
      · go_wp2
        (refine wp_region_quiet_grown (by assumption) (by kernel_rfl) ?_; (repeat (go_big_quiet_step ( (go_at_call 91; exact grown_ext ((f1 _).mono fun _ _ ⟨he, hw⟩ => ⟨he, hw ▸ Ext.refl _⟩)) ))); refine wpQuiet_nil ?_; intro _ hw'; obtain ⟨⟨nq, osq⟩, hw''⟩ := hw'; subst hw'')
        go_wp2
        go_ret
        exact ⟨ret_bool (by rw [HS'.out]; simp), (by with_reducible (repeat first | exact Ext.refl _ | assumption | apply Ext.alloc | apply Ext.drewN | apply Ext.drew | apply Ext.grow | refine Ext.trans ?_ (by assumption)))⟩
      cases rx
      · go_wp2
        (refine wp_region_quiet_grown (by assumption) (by kernel_rfl) ?_; (repeat (go_big_quiet_step ( first | (go_at_call 91; exact grown_ext ((f1 _).mono fun _ _ ⟨he, hw⟩ => ⟨he, hw ▸ Ext.refl _⟩)) | (go_at_call 92; exact grown_ext (f2 _ (Ext.grow hE0 _ _))) ))); refine wpQuiet_nil ?_; intro _ hw'; obtain ⟨⟨nq, osq⟩, hw''⟩ := hw'; subst hw'')
        go_wp2
        go_ret
        exact ⟨ret_bool (by rw [HS'.out]; simp), (by with_reducible (repeat first | exact Ext.refl _ | assumption | apply Ext.alloc | apply Ext.drewN | apply Ext.drew | apply Ext.grow | refine Ext.trans ?_ (by assumption)))⟩
      cases k with
      | zero =>
        simp only [Nat.zero_mul, Nat.add_zero] at e0 e1 ge0 ge1
        go_wp2
        (refine wp_region_quiet_grown (by assumption) (by kernel_rfl) ?_; (repeat (go_big_quiet_step ( first | (go_at_call 91; exact grown_ext ((f1 _).mono fun _ _ ⟨he, hw⟩ => ⟨he, hw ▸ Ext.refl _⟩)) | (go_at_call 92; exact grown_ext (f2 _ (Ext.grow hE0 _ _))) ))); refine wpQuiet_nil ?_; intro _ hw'; obtain ⟨⟨nq, osq⟩, hw''⟩ := hw'; subst hw'')
        go_wp2
        go_roundg (z.length - 1)
        case measure => omega
        case rel => exact ⟨1, by omega, by omega, by go_num, ⟨(by with_reducible (repeat first | exact Ext.refl _ | assumption | apply Ext.alloc | apply Ext.drewN | apply Ext.drew | apply Ext.grow | refine Ext.trans ?_ (by assumption)))⟩, ⟨by rw [HS'.out]; simp [prev, h0]⟩⟩
      | succ k =>
        obtain ⟨y, hy⟩ : ∃ y, z[k]? = some y := ⟨_, List.getElem?_eq_getElem (by omega)⟩
        have HY : As (prev z (k + 1) = some y) := ⟨hy⟩
        obtain ⟨b', o', c', A1, d1, hv, hb', hyi, hry, p0, p1⟩ := RdZ.ent HR.out hy
        injection hv with hA _ hcc
        injection hA with hA
        injection hA with h1 h2 _
        subst h1 h2
        replace p0 := HE.out.cell p0; replace p1 := HE.out.cell p1
        have gp0 := gc p0; have gp1 := gc p1
        have HRY := As.mk hry
        obtain ⟨yr, yw⟩ := y
        simp only at *
        have f3 := fun W (hE : Ext w W) => r2Compare_any _ _ yr xr W (HRY.out.ext hE.below) (HRX.out.ext hE.below)
        clear hy hry hcc
        have hk1 : IntKind.i64.wrap ((k : Int) + 1 - 1) = (k : Int) := by rw [IntKind.wrap_i64]; omega
        have HS2 : As (zsound z = (decide (rcmp yr xr < 0) && zsound0 (prev z (k + 1 + 1)) (z.drop (k + 1 + 1)))) := ⟨by rw [HS'.out, HY.out]; simp [h0b]⟩
        clear HS'
        generalize rcmp yr xr = q at *
        have kz : decide ((0 : Int) < (k : Int) + 1) = true := decide_eq_true (by omega)
        have kz0 : (0 : Int) < (k : Int) + 1 := by omega
        have kz1 : (0 : Int) ≤ (k : Int) := by omega
        have kz2 : (k : Int) < (z.length : Int) := by omega
        have kz3 : ((k : Int)).toNat = k := by omega
        go_wp2
        (refine wp_region_quiet_grown (by assumption) (by kernel_rfl) ?_; (repeat (go_big_quiet_step ( first | (go_at_call 91; exact grown_ext ((f1 _).mono fun _ _ ⟨he, hw⟩ => ⟨he, hw ▸ Ext.refl _⟩)) | (go_at_call 92; exact grown_ext (f2 _ (Ext.grow hE0 _ _))) | (go_at_call 93; exact grown_ext (f3 _ (Ext.grow hE0 _ _))) ))); refine wpQuiet_nil ?_; intro _ hw'; obtain ⟨⟨nq, osq⟩, hw''⟩ := hw'; subst hw'')
        go_wp2
        · go_ret
          have : 0 ≤ q := by assumption
          exact ⟨ret_bool (by rw [HS2.out]; simp; omega), (by with_reducible (repeat first | exact Ext.refl _ | assumption | apply Ext.alloc | apply Ext.drewN | apply Ext.drew | apply Ext.grow | refine Ext.trans ?_ (by assumption)))⟩
        · go_roundg (z.length - (k + 1 + 1))
          case measure => omega
          case rel =>
            have : q < 0 := by assumption
            exact ⟨k + 1 + 1, by omega, by omega, by go_num, ⟨(by with_reducible (repeat first | exact Ext.refl _ | assumption | apply Ext.alloc | apply Ext.drewN | apply Ext.drew | apply Ext.grow | refine Ext.trans ?_ (by assumption)))⟩, ⟨by rw [HS2.out]; simp [this]⟩⟩
    · have hltz : ¬ (k : Int) < (z.length : Int) := by omega
      have hE0 := HE.out
      go_wp2
      go_ret
      exact ⟨ret_bool (by rw [← HA.out, List.drop_eq_nil_of_le (by omega)]; simp [zsound0]), (by with_reducible (repeat first | exact Ext.refl _ | assumption | apply Ext.alloc | apply Ext.drewN | apply Ext.drew | apply Ext.grow | refine Ext.trans ?_ (by assumption)))⟩
theorem r3copied_any (v : Value) (r : List GV) (w : World) (hr : RdV w AnyB v r) :
    Calls Tryz.prog 153 #[v] w fun e w' => ∃ u, e = .returned u ∧ RdV w' (Fresh w.heap.size [96]) u r ∧ Below w.heap.size w w' := by
  obtain ⟨A, c, rfl, hc⟩ := hr.shape
  have hl := hr.len
  have HR1 : As (RdV (w.alloc (.cells #[] 96)) AnyB (.slice A r.length c) r) := ⟨hr.ext (Ext.alloc (Ext.refl _) _).below⟩
  have HO : As (OwnL 4 EV 96 (w.alloc (.cells #[] 96)) w.heap.size (.slice (some ⟨w.heap.size, 0, none⟩) 0 0) []) := ⟨OwnL.made 4 EV 96 w w.heap.size #[] 0 (Nat.le_refl _) (by decide) rfl⟩
  have HB : As (Below w.heap.size w (w.alloc (.cells #[] 96))) := ⟨(Below.refl _ _).alloc (Nat.le_refl _) _⟩
  clear hr
  go_enter Tryz.func153, Tryz.ntmps153
  go_wp2_with (at_builtin; refine OwnL.appends w.heap.size rfl _ _ 64 96 _ 4 40 rfl Tryz.underlying64 info_val rfl (by decide) (by decide) _ [] r _ _ _ rfl rfl HR1.out HO.out HB.out (by simp) (by simpa using hl) ?_; intro v1 w1 hown hb hg hat)
  go_ret
  exact ⟨_, rfl, OwnL.rd (by simpa using hown) (fun k hk => ⟨hk, by simp⟩), hb⟩
def WPost (s : Int) (w : World) (e : Ending) (w' : World) : Prop := ∃ x, e = .returned (.tuple #[.int .i64 x, .bool (fair s)]) ∧ (fair s = true → x = s) ∧ Ext w w'
theorem WPost.bad {s : Int} {w w' : World} (h : fair s = false) (hE : Ext w w') : WPost s w (.returned (.tuple #[.int .i64 0, .bool false])) w' := ⟨0, by rw [h], fun h' => (by rw [h] at h'; cases h'), hE⟩
theorem WPost.good {s : Int} {w w' : World} (hE : Ext w w') : WPost s w (.returned (.tuple #[.int .i64 s, .bool (fair s)])) w' := ⟨s, rfl, fun _ => rfl, hE⟩
theorem r3weight_any (A : Option Addr) (n c : Nat) (h l : Int) (w : World) (hh : -4611686018427387904 ≤ h ∧ h ≤ 4611686018427387904) (hl : 0 ≤ l ∧ l ≤ 4611686018427387904) :
    Calls Tryz.prog 152 #[.agg #[.slice A n c, .int .i64 h, .int .i64 l]] w (WPost (h * 2147483648 + l) w) := by
  obtain ⟨a, ha⟩ : ∃ a, a = h + l / 2147483648 := ⟨_, rfl⟩
  obtain ⟨b, hb⟩ : ∃ b, b = l % 2147483648 := ⟨_, rfl⟩
  have e1 : IntKind.i64.wrap (h + l / 2147483648) = a := by rw [IntKind.wrap_i64]; omega
  have e2 : bits BinOp.and .i64 l 2147483647 = b := by
    rw [hb]
    exact bits_mask .i64 63 (by decide) (by intro n h1 h2; rw [IntKind.wrap_i64]; omega) 31 (by decide) l hl.1 (by omega)
  have e3 : h * 2147483648 + l = a * 2147483648 + b := by omega
  have hb0 : 0 ≤ b ∧ b < 2147483648 := by omega
  rw [e3]
  clear e3 ha hb hh hl
  by_cases h1 : 4294967296 ≤ a
  · have hf : As (fair (a * 2147483648 + b) = false) := ⟨by unfold fair; simp only [Bool.and_eq_false_iff, decide_eq_false_iff_not]; omega⟩
    go_enter Tryz.func152, Tryz.ntmps152
    go_wp2_with fail
    go_ret2
    exact WPost.bad hf.out (by with_reducible (repeat first | exact Ext.refl _ | assumption | apply Ext.alloc | apply Ext.drewN | apply Ext.drew | apply Ext.grow | refine Ext.trans ?_ (by assumption)))
  by_cases h2 : a < -4294967296
  · have hf : As (fair (a * 2147483648 + b) = false) := ⟨by unfold fair; simp only [Bool.and_eq_false_iff, decide_eq_false_iff_not]; omega⟩
    go_enter Tryz.func152, Tryz.ntmps152
    go_wp2_with fail
    go_ret2
    exact WPost.bad hf.out (by with_reducible (repeat first | exact Ext.refl _ | assumption | apply Ext.alloc | apply Ext.drewN | apply Ext.drew | apply Ext.grow | refine Ext.trans ?_ (by assumption)))
  have e4 : IntKind.i64.wrap (a * 2147483648) = a * 2147483648 := by rw [IntKind.wrap_i64]; omega
  have e5 : IntKind.i64.wrap (a * 2147483648 + b) = a * 2147483648 + b := by rw [IntKind.wrap_i64]; omega
  have f1 := fun W => r3fair_any (a * 2147483648 + b) W
  clear hb0
  go_enter Tryz.func152, Tryz.ntmps152
  go_wp2_with (go_at_call 91; refine (f1 _).mono ?_; rintro e w1 ⟨rfl, rfl⟩)
  go_ret2
  exact WPost.good (by with_reducible (repeat first | exact Ext.refl _ | assumption | apply Ext.alloc | apply Ext.drewN | apply Ext.drew | apply Ext.grow | refine Ext.trans ?_ (by assumption)))
end Go.Proofs.YtflckpfpgpfjlaaGreatDoor
end
section
namespace Go.Proofs.YtflckpfpgpfjlaaGreatDoor
open Go.RowKit Go.Sort
section
variable {α : Type} {sz : Nat} {E : α → List Value → Prop} {xs ys : List α} {cs ds : List Value}
theorem Reps.take (h : Reps sz E xs cs) (i : Nat) (hi : i ≤ xs.length) : Reps sz E (xs.take i) (cs.take (i * sz)) := by
  have hm : i * sz ≤ xs.length * sz := Nat.mul_le_mul_right _ hi
  refine ⟨by rw [List.length_take, h.1, List.length_take]; rw [Nat.min_eq_left hm, Nat.min_eq_left hi], fun j x hj => ?_⟩
  rw [List.getElem?_take] at hj
  split at hj
  · next hl =>
    have hb : j * sz + sz ≤ i * sz := by rw [← Nat.succ_mul]; exact Nat.mul_le_mul_right _ hl
    rw [List.drop_take, List.take_take, Nat.min_eq_left (by omega)]
    exact h.2 j x hj
  · cases hj
theorem Reps.drop (h : Reps sz E xs cs) (i : Nat) : Reps sz E (xs.drop i) (cs.drop (i * sz)) := by
  refine ⟨by rw [List.length_drop, h.1, List.length_drop, Nat.sub_mul], fun j x hj => ?_⟩
  rw [List.getElem?_drop] at hj
  rw [List.drop_drop, ← Nat.add_mul]
  exact h.2 _ x hj
theorem Reps.set3 {E : α → List Value → Prop} {cs : List Value} (h : Reps 3 E xs cs) {j : Nat} {x : α} {a b c : Value} (hj : j < xs.length) (hx : E x [a, b, c]) : Reps 3 E (xs.set j x) (((cs.set (j * 3) a).set (j * 3 + 1) b).set (j * 3 + 2) c) := by
  refine ⟨by simp [h.1], fun i y hi => ?_⟩
  have hl := h.1
  rw [List.getElem?_set] at hi
  split at hi
  · next e =>
    subst e
    injection hi with hi
    subst hi
    have : ((((cs.set (j * 3) a).set (j * 3 + 1) b).set (j * 3 + 2) c).drop (j * 3)).take 3 = [a, b, c] := by
      apply List.ext_getElem?
      intro k
      simp only [List.getElem?_take, List.getElem?_drop, List.getElem?_set, List.length_set]
      by_cases hk : k < 3
      · rcases (show k = 0 ∨ k = 1 ∨ k = 2 by omega) with rfl | rfl | rfl
        all_goals simp <;> omega
      · rw [if_neg hk, List.getElem?_eq_none (by simp; omega)]
    rw [this]; exact hx
  · next e =>
    have hil := (List.getElem?_eq_some_iff.1 hi).1
    have : ((((cs.set (j * 3) a).set (j * 3 + 1) b).set (j * 3 + 2) c).drop (i * 3)).take 3 = (cs.drop (i * 3)).take 3 := by
      apply List.ext_getElem?
      intro k
      simp only [List.getElem?_take, List.getElem?_drop, List.getElem?_set, List.length_set]
      by_cases hk : k < 3
      · rw [if_pos hk, if_pos hk, if_neg (by omega), if_neg (by omega), if_neg (by omega)]
      · rw [if_neg hk, if_neg hk]
    rw [this]; exact h.2 i y hi
theorem OwnL.set3 {E : α → List Value → Prop} {e : TypeId} {w : World} {base g n c : Nat} (h : OwnL 3 E e w base (.slice (some ⟨g, 0, none⟩) n c) xs) {j : Nat} {x : α} {a b d : Value} (hj : j < xs.length) (hx : E x [a, b, d]) (h1 : a.oneCell' = true ∧ b.oneCell' = true ∧ d.oneCell' = true) :
    OwnL 3 E e (((w.setCell ⟨g, j * 3, none⟩ a).setCell ⟨g, j * 3 + 1, none⟩ b).setCell ⟨g, j * 3 + 2, none⟩ d) base (.slice (some ⟨g, 0, none⟩) n c) (xs.set j x) ∧
    w.grownBy (((w.setCell ⟨g, j * 3, none⟩ a).setCell ⟨g, j * 3 + 1, none⟩ b).setCell ⟨g, j * 3 + 2, none⟩ d) (some g) := by
  obtain ⟨cs, ho, hr, hone, hl⟩ := h
  have hn : n = xs.length := by
    rcases ho.2 with ⟨hv, _⟩ | ⟨_, _, _, hv, _⟩
    · injection hv with h1; cases h1
    · injection hv
  subst hn
  obtain ⟨o1, g1⟩ := ho.stored (j * 3) a
  obtain ⟨o2, g2⟩ := o1.stored (j * 3 + 1) b
  obtain ⟨o3, g3⟩ := o2.stored (j * 3 + 2) d
  refine ⟨⟨_, by simpa using o3, hr.set3 hj hx, fun u hu => ?_, by simpa using hl⟩, (g1.trans g2).trans g3⟩
  rcases List.mem_or_eq_of_mem_set hu with hu | rfl
  · rcases List.mem_or_eq_of_mem_set hu with hu | rfl
    · rcases List.mem_or_eq_of_mem_set hu with hu | rfl
      · exact hone u hu
      · exact h1.1
    · exact h1.2.1
  · exact h1.2.2
theorem run_copy_sz {P : Program} (w : World) (dT sT ty elem : TypeId) (i : TypeInfo) (g o dLen dCap : Nat) (a : Addr) (sLen sCap : Nat) (cur : Array Value) (t : TypeId) (cs : List Value)
    (hu : P.underlying dT = some (.slice elem)) (hi : P.info? elem = some i)
    (hg : w.heap[g]? = some (.cells cur t (0, 0))) (hn : cs.length = Nat.min sLen dLen * i.size)
    (hsrc : ∀ j v, cs[j]? = some v → w.cell? (a.add j) = some v) (hfit : o + cs.length ≤ cur.size) (h1 : ∀ v ∈ cs, v.oneCell' = true) :
    (Builtin.copy_ #[dT, sT] ty #[.slice (some ⟨g, o, none⟩) dLen dCap, .slice (some a) sLen sCap]).run P w =
      .ok (goInt (Nat.min sLen dLen)) (w.setRow g (cur.toList.take o ++ cs ++ cur.toList.drop (o + cs.length)).toArray) := by
  have hl := run_loadCells_list (P := P) w a cs hsrc
  have hst := run_storeCells_at P g o t cs 0 cur w hg (by simpa using hfit) h1
  simp only [Nat.add_zero] at hst
  simp [Builtin.copy_, run_underlying hu, Builtin.lenOf, Builtin.firstCells, Go.sizeOf, typeInfo, hi, ← hn, hl, hst]
end
section
variable {P : Program} {ops : Array Oper} {o : Oper} {a : Act} {Q : Exit → Act → World → Prop} {α : Type} {sz : Nat} {E : α → List Value → Prop} {xs : List α}
theorem OwnL.copied {e : TypeId} {w : World} {base g n c : Nat} (h : OwnL sz E e w base (.slice (some ⟨g, 0, none⟩) n c) xs) (i j m : Nat) (him : i + m ≤ xs.length) (hjm : j + m ≤ xs.length) :
    ∃ (cur : Array Value) (cs : List Value), w.heap[g]? = some (.cells cur e (0, 0)) ∧ cs.length = m * sz ∧ (∀ k u, cs[k]? = some u → w.cell? ((⟨g, j * sz, none⟩ : Addr).add k) = some u) ∧ i * sz + cs.length ≤ cur.size ∧ (∀ u ∈ cs, u.oneCell' = true) ∧
      OwnL sz E e (w.setRow g (cur.toList.take (i * sz) ++ cs ++ cur.toList.drop (i * sz + cs.length)).toArray) base (.slice (some ⟨g, 0, none⟩) n c) (xs.take i ++ (xs.drop j).take m ++ xs.drop (i + m)) ∧ base ≤ g := by
  obtain ⟨cs, ho, hr, hone, hl⟩ := h
  rcases ho.2 with ⟨hv, _⟩ | ⟨g', cap, cur, hv, hb, hh, hc, hm, hs, htk⟩
  · cases hv
  injection hv with h1 h2 h3
  injection h1 with h1
  injection h1 with h1 _ _
  subst h1 h2 h3
  have hx0 : xs.length * sz ≤ cur.size := by rw [hs]; exact Nat.mul_le_mul_right _ hc
  have e1 : i * sz + m * sz ≤ xs.length * sz := by rw [← Nat.add_mul]; exact Nat.mul_le_mul_right _ him
  have e2 : j * sz + m * sz ≤ xs.length * sz := by rw [← Nat.add_mul]; exact Nat.mul_le_mul_right _ hjm
  have hlen : ((cs.drop (j * sz)).take (m * sz)).length = m * sz := by rw [List.length_take, List.length_drop, hr.1]; omega
  have hcs : ∀ k, k < xs.length * sz → cur[k]? = cs[k]? := fun k hk => by rw [← htk, List.getElem?_take, if_pos hk, Array.getElem?_toList]
  refine ⟨cur, (cs.drop (j * sz)).take (m * sz), hh, hlen, fun k u hu => ?_, by rw [hlen]; omega, fun u hu => hone u (List.mem_of_mem_drop (List.mem_of_mem_take hu)), ?_, hb⟩
  · rw [List.getElem?_take] at hu
    split at hu
    · rw [List.getElem?_drop] at hu
      rw [add_lit, cell_of_row w g _ cur e (0, 0) hh, hcs _ (by omega)]
      exact hu
    · cases hu
  · have hxl : (xs.take i ++ (xs.drop j).take m ++ xs.drop (i + m)).length = xs.length := by simp only [List.length_append, List.length_take, List.length_drop]; omega
    have hrep : Reps sz E (xs.take i ++ (xs.drop j).take m ++ xs.drop (i + m)) (cs.take (i * sz) ++ (cs.drop (j * sz)).take (m * sz) ++ cs.drop ((i + m) * sz)) :=
      ((hr.take i (by omega)).app ((hr.drop j).take m (by rw [List.length_drop]; omega))).app (hr.drop _)
    refine ⟨_, ?_, hrep, fun u hu => ?_, by rw [hxl]; exact hl⟩
    · rw [hxl]
      refine ⟨by rw [hrep.1, hxl], .inr ⟨g, c, _, rfl, hb, setRow_heap w g cur _ e (0, 0) hh, hc, hm, ?_, ?_⟩⟩
      · simp only [List.size_toArray, List.length_append, hlen, List.length_take, List.length_drop, Array.length_toList]; omega
      · have t1 : cs.take (i * sz) = cur.toList.take (i * sz) := by rw [← htk, List.take_take, Nat.min_eq_left (by omega)]
        have hAB : (cur.toList.take (i * sz) ++ (cs.drop (j * sz)).take (m * sz)).length = i * sz + m * sz := by rw [List.length_append, hlen, List.length_take, Array.length_toList]; omega
        have e3 : xs.length * sz = (cur.toList.take (i * sz) ++ (cs.drop (j * sz)).take (m * sz)).length + (xs.length * sz - (i * sz + m * sz)) := by rw [hAB]; omega
        rw [hlen, t1, Nat.add_mul]
        conv => lhs; rw [e3]
        show List.take _ _ = _
        rw [List.take_length_add_append]
        congr 1
        rw [← htk, List.drop_take]
    · rcases List.mem_append.1 hu with hu | hu
      · rcases List.mem_append.1 hu with hu | hu
        · exact hone u (List.mem_of_mem_take hu)
        · exact hone u (List.mem_of_mem_drop (List.mem_of_mem_take hu))
      · exact hone u (List.mem_of_mem_drop hu)
theorem setRow_grown (w : World) (g : Nat) (cs : Array Value) : w.grownBy (w.setRow g cs) (some g) := ⟨rfl, rfl, rfl, by simp, fun k _ hk => setRow_other w g k cs (fun e => hk (by simp [e]))⟩
theorem OwnL.copy_step {w0 w : World} {K : Act → World → Prop} {F : Prop} (base : Nat) (hgd : o.guard = none) (d s : Operand) (t e : TypeId) (ti : TypeInfo)
    (ho : o.op = .call { callee := .builtin .copy, args := #[d, s], argTypes := #[t, t] }) (ht : P.underlying t = some (.slice e)) (hi : P.info? e = some ti) (hsz : ti.size = sz)
    (g n c : Nat) (xs : List α) (i j m : Nat) (D S : Option Addr) (dl dc sl sc : Nat) (hd : a.eval d = .slice D dl dc) (hD : 0 < m → D = some ⟨g, i * sz, none⟩) (hs : a.eval s = .slice S sl sc) (hS : 0 < m → S = some ⟨g, j * sz, none⟩) (hm : m = Nat.min sl dl)
    (him : i + m ≤ xs.length) (hjm : j + m ≤ xs.length) (HO : OwnL sz E e w base (.slice (some ⟨g, 0, none⟩) n c) xs) (HB : Below base w0 w)
    (h : ∀ w1, OwnL sz E e w1 base (.slice (some ⟨g, 0, none⟩) n c) (xs.take i ++ (xs.drop j).take m ++ xs.drop (i + m)) → Below base w0 w1 → w.grownBy w1 (some g) → K (a.put o.dst (goInt m)) w1) :
    if Region.wanted o (yielded ops a.tmps) = true then Oper.wp P o a w K Q else F := by
  rw [if_pos (by simp [Region.wanted, hgd])]
  obtain ⟨cur, cs, h1, h2, h3, h4, h5, h6, h7⟩ := HO.copied i j m him hjm
  subst hsz
  rcases Nat.eq_zero_or_pos m with h0 | h0
  · subst h0
    have hrun : (Builtin.copy_ #[t, t] o.type #[.slice D dl dc, .slice S sl sc]).run P w = .ok (goInt 0) w := by
      have hz : Nat.min sl dl = 0 := hm.symm
      cases D <;> cases S <;> simp [Builtin.copy_, run_underlying ht, Builtin.lenOf, Builtin.firstCells, Go.sizeOf, typeInfo, hi, hz, loadCells, loadCellsFrom, storeCells]
    have hsame : xs.take i ++ (xs.drop j).take 0 ++ xs.drop (i + 0) = xs := by simp
    rw [hsame] at h
    unfold Oper.wp execOp
    simp only [ho, resolve, invoke, builtin, Sem.run_bind, Sem.run_pure, Result.andThen_ok, List.map_toArray, List.map_cons, List.map_nil, hd, hs, hrun]
    exact h w HO HB ⟨rfl, rfl, rfl, Nat.le_refl _, fun _ _ _ => rfl⟩
  · rw [hD h0] at hd
    rw [hS h0] at hs
    have hrun := run_copy_sz (P := P) w t t o.type e ti g (i * ti.size) dl dc ⟨g, j * ti.size, none⟩ sl sc cur e cs ht hi h1 (by rw [h2, hm]) h3 h4 h5
    rw [← hm] at hrun
    unfold Oper.wp execOp
    simp only [ho, resolve, invoke, builtin, Sem.run_bind, Sem.run_pure, Result.andThen_ok, List.map_toArray, List.map_cons, List.map_nil, hd, hs, hrun]
    exact h _ h6 (HB.trans ⟨rfl, rfl, rfl, by simp, fun k hk => setRow_other w g k _ (by omega)⟩) (setRow_grown w g _)
end
theorem append_types {P : Program} {t t2 e e2 ty : TypeId} (ht : P.underlying t = some (.slice e)) (ht2 : P.underlying t2 = some (.slice e2)) (v x : Value) (w : World) :
    (Builtin.append_ #[t, t2] ty #[v, x]).run P w = (Builtin.append_ #[t, t] ty #[v, x]).run P w := by
  have h0 : (#[t, t2] : Array TypeId)[0]? = some t := rfl
  have h1 : (#[t, t2] : Array TypeId)[1]? = some t2 := rfl
  have h2 : (#[t, t] : Array TypeId)[0]? = some t := rfl
  have h3 : (#[t, t] : Array TypeId)[1]? = some t := rfl
  unfold Builtin.append_
  cases v <;> simp [run_underlying ht, run_underlying ht2, Sem.run_bind]
section
variable {P : Program} {ops : Array Oper} {rest : List Oper} {o : Oper} {a : Act} {Q : Exit → Act → World → Prop} {α : Type} {E : α → List Value → Prop}
theorem OwnL.appends2 {w0 W : World} (base : Nat) (hgd : o.guard = none) (s x : Operand) (t t2 e e2 : TypeId) (z : Value) (sz bytes : Nat)
    (ho : o.op = .call { callee := .builtin .append, args := #[s, x], argTypes := #[t, t2] })
    (ht : P.underlying t = some (.slice e)) (ht2 : P.underlying t2 = some (.slice e2)) (hinfo : (P.info? e).map (fun i => (i.zero, i.size, i.bytes)) = some (some z, sz, bytes)) (hz : z.cells.size = sz) (hs0 : 0 < sz) (hb0 : bytes ≤ 32768)
    (v : Value) (ps ys : List α) (A : Option Addr) (n c : Nat) (hs : a.eval s = v) (hx : a.eval x = .slice A n c) {ok : Blk} (hy : RdL sz E W ok (.slice A n c) ys)
    (HO : OwnL sz E e W base v ps) (HB : Below base w0 W) (hbase : base ≤ W.heap.size) (hl : ps.length + ys.length ≤ 4294967296)
    (h : ∀ v1 w1, OwnL sz E e w1 base v1 (ps ++ ys) → Below base w0 w1 → W.grownBy w1 v.ownBlock → (v1.ownBlock = v.ownBlock ∨ v1.ownBlock = some W.heap.size) → wpList P ops Q rest (a.put o.dst v1) w1) :
    wpList P ops Q (o :: rest) a W := by
  obtain ⟨v1, w1, hr, hown, hg, hat⟩ := run_appends (P := P) base t o.type e z sz bytes ht hinfo hz hs0 hb0 v ps ys A n c hy HO hbase hl
  rw [← append_types ht ht2] at hr
  refine wpList_plain hgd fun K hK => ?_
  unfold Oper.wp execOp
  simp only [ho, resolve, invoke, builtin, Sem.run_bind, Sem.run_pure, Result.andThen_ok, List.map_toArray, List.map_cons, List.map_nil, hs, hx, hr]
  exact hK _ _ (h v1 w1 hown (HB.grown hg hbase fun k hk => (HO.lt k hk).1) hg hat)
end
end Go.Proofs.YtflckpfpgpfjlaaGreatDoor
end
section
namespace Go.Proofs.YtflckpfpgpfjlaaGreatDoor
open Go.RowKit Go.Sort
def ET (w : World) (ok : Blk) (t : GT) (cs : List Value) : Prop := ∃ v, cs = [v, .int .i64 t.high, .int .i64 t.low] ∧ i64 t.high ∧ i64 t.low ∧ RdV w ok v t.row
theorem ET.mv {w w' : World} {ok ok' : Blk} {t : GT} {cs : List Value} (h : ET w ok t cs) (hs : Stays w w' ok ok') : ET w' ok' t cs := by
  obtain ⟨v, h1, h2, h3, h4⟩ := h
  exact ⟨v, h1, h2, h3, h4.mv hs⟩
theorem info_total : (Tryz.prog.info? 220).map (fun i => (i.zero, i.size, i.bytes)) = some (some (.agg #[.slice none 0 0, .int .i64 0, .int .i64 0]), 3, 40) := by kernel_rfl
theorem OwnL.tot {w w1 : World} {ok : Blk} {base g n c : Nat} {ts : List GT} (h : OwnL 3 (ET w1 ok) 220 w base (.slice (some ⟨g, 0, none⟩) n c) ts) {j : Nat} {t : GT} (hj : ts[j]? = some t) :
    ∃ A d, RdV w1 ok (.slice A t.row.length d) t.row ∧ i64 t.high ∧ i64 t.low ∧ w.cell? ⟨g, j * 3, none⟩ = some (.slice A t.row.length d) ∧ w.cell? ⟨g, j * 3 + 1, none⟩ = some (.int .i64 t.high) ∧ w.cell? ⟨g, j * 3 + 2, none⟩ = some (.int .i64 t.low) ∧
      w.frozen? ⟨g, j * 3, none⟩ = false ∧ w.frozen? ⟨g, j * 3 + 1, none⟩ = false ∧ w.frozen? ⟨g, j * 3 + 2, none⟩ = false := by
  have hr := h.rd (ok := AnyB) fun _ _ => trivial
  obtain ⟨b, o, c', hv, hb, cs, _, ⟨u, rfl, h1, h2, hrow⟩, _, hc⟩ := hr.at hj
  obtain ⟨A, d, rfl, _⟩ := hrow.shape
  obtain ⟨cs', ho, _⟩ := h
  injection hv with e1 e2 e3
  injection e1 with e1
  injection e1 with e1 e4
  subst e1 e4 e2
  have f := fun k => ho.frozenAt k
  have c0 := hc 0 _ rfl
  have c1 := hc 1 _ rfl
  have c2 := hc 2 _ rfl
  simp only [Nat.zero_add, Nat.add_zero] at c0 c1 c2
  exact ⟨A, d, hrow, h1, h2, c0, c1, c2, f _, f _, f _⟩
theorem and31 (n : Int) : bits BinOp.and .i64 n 2147483647 = n % 2147483648 := by
  show IntKind.i64.wrap ((BitVec.ofInt 64 n &&& BitVec.ofInt 64 2147483647).toNat : Int) = _
  rw [BitVec.toNat_and, BitVec.toNat_ofInt, BitVec.toNat_ofInt, show ((2147483647 : Int) % ((2 ^ 64 : Nat) : Int)).toNat = 2 ^ 31 - 1 by decide, Nat.and_two_pow_sub_one_eq_mod, IntKind.wrap_i64]
  omega
def PutTPost (B base : Nat) (v : Value) (ts : List GT) (w : World) (e : Ending) (w' : World) : Prop := ∃ u, e = .returned u ∧ OwnL 3 (ET w' (Old B)) 220 w' base u ts ∧ Below base w w'
theorem PutTPost.of {B base : Nat} {v0 u : Value} {ts : List GT} {w w4 w' : World} (hB : Below base w w4) (hbw : base ≤ w4.heap.size) (hBb : B ≤ base) (hown : OwnL 3 (ET w4 (Old B)) 220 w' base u ts) (hg : Below base w4 w') : PutTPost B base v0 ts w (.returned u) w' :=
  ⟨u, rfl, hown.imp fun _ _ h => ET.mv h fun k t cells fr ho hh => ⟨ho, (hg.block k (Nat.lt_of_lt_of_le ho.1 hBb)).trans hh⟩, hB.trans hg⟩
theorem OwnL.addr {α : Type} {sz : Nat} {E : α → List Value → Prop} {e : TypeId} {w : World} {base : Nat} {v : Value} {xs : List α} (h : OwnL sz E e w base v xs) (hn : 0 < xs.length) : ∃ g c, v = .slice (some ⟨g, 0, none⟩) xs.length c ∧ base ≤ g ∧ g < w.heap.size ∧ xs.length ≤ c ∧ v.ownBlock = some g := by
  obtain ⟨cs, ho, _⟩ := h
  rcases ho.2 with ⟨hv, h0⟩ | ⟨g, cap, cur, hv, hb, hh, hc, _⟩
  · omega
  · exact ⟨g, cap, hv, hb, (Array.getElem?_eq_some_iff.1 hh).1, hc, by rw [hv]; rfl⟩
set_option maxHeartbeats 8000000 in
set_option maxRecDepth 100000 in
theorem r3put_any (B base : Nat) (v : Value) (ts : List GT) (A : Option Addr) (c : Nat) (x : GE) (w : World) (HO : OwnL 3 (ET w (Old B)) 220 w base v ts) (hBb : B ≤ base) (hbw : base ≤ w.heap.size) (hx : RdV w (Old B) (.slice A x.row.length c) x.row) (hok : RowOk x.row) (hf : fair x.w = true)
    (hts : ∀ t ∈ ts, RowOk t.row) (hrise : ts.Pairwise fun a b => rlex a.row b.row < 0) (hlen : ts.length ≤ 2147483648) (hlow : ∀ t ∈ ts, 0 ≤ t.low ∧ t.low ≤ 4611686016279904256) (hhigh : ∀ t ∈ ts, -4611686018427387904 ≤ t.high ∧ t.high ≤ 4611686018427387904) :
    Calls Tryz.prog 151 #[v, .agg #[.slice A x.row.length c, .int .i64 x.w]] w (PutTPost B base v (insT ts x) w) := by
  have mixed := mixed
  have HTS := As.mk hts
  have HRISE := As.mk hrise
  have HLOW := As.mk hlow
  have HHIGH := As.mk hhigh
  have HOK := As.mk hok
  have HOWN := As.mk HO
  have HX := As.mk hx
  have HF := As.mk hf
  obtain ⟨Av, cv, rfl, _⟩ := HO.shape
  clear HO hts hrise hlow hhigh hok hx hf
  have HB0 : As (Below w.heap.size w (w.alloc (.cells #[.slice A x.row.length c, .int .i64 x.w] 66))) := ⟨(Below.refl _ _).alloc (Nat.le_refl _) _⟩
  go_enter Tryz.func151, Tryz.ntmps151
  go_wp2_with fail
  go_loopg [5, 6, 7] ts.length (fun g s5 s6 _ wr => ∃ (k n : Nat), k ≤ n ∧ n ≤ ts.length ∧ n - k ≤ g ∧ s5 = .int .i64 k ∧ s6 = .int .i64 n ∧ As (Ext (w.alloc (.cells #[.slice A x.row.length c, .int .i64 x.w] 66)) wr) ∧
    As (∀ (i : Nat) (t : GT), i < k → ts[i]? = some t → rlex t.row x.row < 0) ∧ As (∀ (i : Nat) (t : GT), n ≤ i → ts[i]? = some t → 0 ≤ rlex t.row x.row))
  case atStart => exact ⟨0, ts.length, by omega, by omega, by omega, by go_num, rfl, ⟨Ext.refl _⟩, ⟨fun i t h => absurd h (Nat.not_lt_zero _)⟩, ⟨fun i t h ht => by have := (List.getElem?_eq_some_iff.1 ht).1; omega⟩⟩
  case round =>
    obtain ⟨k, n, hkn, hn, hg, rfl, rfl, HE, HL, HH⟩ := hrel
    have HBW : As (Below w.heap.size w wr) := ⟨HB0.out.trans (HE.out.below.mono (by simp))⟩
    have hsz0 := HBW.out.size
    have xb0 := HE.out.cell (show (w.alloc (.cells #[.slice A x.row.length c, .int .i64 x.w] 66)).cell? ⟨w.heap.size, 0, none⟩ = some (.slice A x.row.length c) by simp)
    have xb1 := HE.out.cell (show (w.alloc (.cells #[.slice A x.row.length c, .int .i64 x.w] 66)).cell? ⟨w.heap.size, 1, none⟩ = some (.int .i64 x.w) by simp)
    have gb0 := gc xb0
    have gb1 := gc xb1
    have HOW : As (OwnL 3 (ET wr (Old B)) 220 wr base (.slice Av ts.length cv) ts) := ⟨(HOWN.out.below HBW.out).imp fun _ _ h => ET.mv h (Stays.below HBW.out _)⟩
    have HXW := As.mk (HX.out.ext HBW.out)
    by_cases hlt : k < n
    · have hltz : (k : Int) < (n : Int) := by omega
      obtain ⟨m, hm⟩ : ∃ m : Nat, m = (k + n) / 2 := ⟨_, rfl⟩
      have hmz : ((k : Int) + (n : Int)) / 2 = (m : Int) := by omega
      have hmk : k ≤ m := by omega
      have hmn : m < n := by omega
      have hml : m < ts.length := by omega
      have hmlz : (m : Int) < (ts.length : Int) := by omega
      have hm0 : (0 : Int) ≤ (m : Int) := by omega
      obtain ⟨t, ht⟩ : ∃ t, ts[m]? = some t := ⟨_, List.getElem?_eq_getElem hml⟩
      have HT := As.mk ht
      clear hm ht
      obtain ⟨g0, rfl⟩ : ∃ g0, Av = some ⟨g0, 0, none⟩ := by
        obtain ⟨cs, ho, _⟩ := HOW.out
        rcases ho.2 with ⟨hv, h0⟩ | ⟨g, cap, cur, hv, _⟩
        · omega
        · injection hv with h1; exact ⟨g, h1⟩
      obtain ⟨At, dt, hrow, hh1, hh2, c0, c1, c2, _, _, _⟩ := HOW.out.tot HT.out
      have gc0 := gc c0
      have q1 := fun W (hE : Ext wr W) => r2Compare_any _ _ t.row x.row W ((hrow.mv (Stays.any _ _)).ext hE.below) ((HXW.out.mv (Stays.any _ _)).ext hE.below)
      rw [rcmp_lex (HTS.out t (List.mem_of_getElem? HT.out)).1 HOK.out.1] at q1
      have HQ : As (∀ q, rlex t.row x.row = q → (q < 0 → ∀ (i : Nat) (s : GT), i < m + 1 → ts[i]? = some s → rlex s.row x.row < 0) ∧ (0 ≤ q → ∀ (i : Nat) (s : GT), m ≤ i → ts[i]? = some s → 0 ≤ rlex s.row x.row)) := ⟨fun q hq => by
        have hpw := List.pairwise_iff_getElem.1 HRISE.out
        obtain ⟨hml', htm⟩ := List.getElem?_eq_some_iff.1 HT.out
        refine ⟨fun h i s hi hs => ?_, fun h i s hi hs => ?_⟩
        · obtain ⟨hil, rfl⟩ := List.getElem?_eq_some_iff.1 hs
          rcases Nat.lt_or_eq_of_le (show i ≤ m by omega) with h' | rfl
          · have := hpw i m hil hml' h'
            rw [htm] at this
            exact rlex_cmp.lt_trans this (by omega)
          · rw [htm, hq]; exact h
        · obtain ⟨hil, rfl⟩ := List.getElem?_eq_some_iff.1 hs
          rcases Nat.lt_or_eq_of_le hi with h' | rfl
          · have h1 := hpw m i hml' hil h'
            rw [htm] at h1
            rcases Int.lt_or_le (rlex ts[i].row x.row) 0 with h2 | h2
            · have := rlex_cmp.lt_trans h1 h2
              omega
            · exact h2
          · rw [htm, hq]; exact h⟩
      have HQ2 := As.mk (HQ.out _ rfl)
      clear hrow hh1 hh2 c0 c1 c2 HQ
      generalize rlex t.row x.row = q at *
      have hE0 : Ext wr wr := Ext.refl _
      go_wp2_with fail
      (refine wp_region_quiet_grown (by assumption) (by kernel_rfl) ?_; (repeat (go_big_quiet_step ( (go_at_call 93; exact grown_ext (q1 _ (Ext.grow hE0 _ _))) ))); refine wpQuiet_nil ?_; intro _ hw'; obtain ⟨⟨nq, osq⟩, hw''⟩ := hw'; subst hw'')
      have HEN : As (Ext (w.alloc (.cells #[.slice A x.row.length c, .int .i64 x.w] 66)) (grow (wr.drewN nq) osq)) := ⟨HE.out.grow _ _⟩
      go_wp2_with fail
      · go_roundg (n - (m + 1))
        case measure => omega
        case rel =>
          have hq : q < 0 := by assumption
          exact ⟨m + 1, n, by omega, by omega, by omega, by go_num, rfl, HEN, ⟨HQ2.out.1 hq⟩, HH⟩
      · go_roundg (m - k)
        case measure => omega
        case rel =>
          have hq : 0 ≤ q := by omega
          exact ⟨k, m, by omega, by omega, by omega, rfl, by rw [hmz], HEN, HL, ⟨HQ2.out.2 hq⟩⟩
    · obtain rfl : k = n := by omega
      clear hkn
      have hltz : ¬ (k : Int) < (k : Int) := by omega
      have hk0 : (0 : Int) ≤ (k : Int) := by omega
      have hfw : -4611686018427387904 ≤ x.w ∧ x.w ≤ 4611686018427387904 := by
        have := HF.out
        unfold fair at this
        simpa using this
      have ew : bits BinOp.and .i64 x.w 2147483647 = x.w % 2147483648 := and31 _
      have HNT : As (ET wr (Old B) (newT x) [.slice A x.row.length c, .int .i64 (x.w / 2147483648), .int .i64 (x.w % 2147483648)]) := ⟨⟨_, rfl, by unfold newT i64; simp only; omega, by unfold newT i64; simp only; omega, HXW.out⟩⟩
      by_cases hend : k < ts.length
      · have hkz : (k : Int) < (ts.length : Int) := by omega
        obtain ⟨t, ht⟩ : ∃ t, ts[k]? = some t := ⟨_, List.getElem?_eq_getElem hend⟩
        have HT := As.mk ht
        have hkd : decide ((k : Int) < (ts.length : Int)) = true := decide_eq_true hkz
        have hkd2 : decide (k < ts.length) = true := decide_eq_true hend
        clear ht
        obtain ⟨g0, rfl⟩ : ∃ g0, Av = some ⟨g0, 0, none⟩ := by
          obtain ⟨cs, ho, _⟩ := HOW.out
          rcases ho.2 with ⟨hv, h0⟩ | ⟨g, cap, cur, hv, _⟩
          · omega
          · injection hv with h1; exact ⟨g, h1⟩
        obtain ⟨At, dt, hrow, hh1, hh2, c0, c1, c2, f0, f1, f2⟩ := HOW.out.tot HT.out
        have gc0 := gc c0
        have q1 := fun W (hE : Ext wr W) => r2Compare_any _ _ t.row x.row W ((hrow.mv (Stays.any _ _)).ext hE.below) ((HXW.out.mv (Stays.any _ _)).ext hE.below)
        rw [rcmp_lex (HTS.out t (List.mem_of_getElem? HT.out)).1 HOK.out.1] at q1
        have hq0 := HH.out k t (Nat.le_refl _) HT.out
        have HINS := As.mk (insT_hit HT.out HL.out)
        have HNEW := As.mk (insT_new HT.out HL.out)
        have hlo := HLOW.out t (List.mem_of_getElem? HT.out)
        have hhi := HHIGH.out t (List.mem_of_getElem? HT.out)
        clear hh1 hh2
        generalize rlex t.row x.row = q at *
        have hE0 : Ext wr wr := Ext.refl _
        by_cases hqz : q = 0
        · subst hqz
          have HI := As.mk (HINS.out rfl)
          clear hq0 HINS HNEW
          go_wp2_with fail
          (refine wp_region_quiet_grown (by assumption) (by kernel_rfl) ?_; (repeat (go_big_quiet_step ( (go_at_call 93; exact grown_ext (q1 _ (Ext.grow hE0 _ _))) ))); refine wpQuiet_nil ?_; intro _ hw'; obtain ⟨⟨nq, osq⟩, hw''⟩ := hw'; subst hw'')
          have hE4 : Ext wr (grow (wr.drewN nq) osq) := ⟨nq, osq, rfl⟩
          generalize grow (wr.drewN nq) osq = w4 at *
          clear gc0 gb0 gb1 q1 hE0 c0 c1 c2 f0 f1 f2
          have HB4 : As (Below w.heap.size w w4) := ⟨HBW.out.trans (hE4.below.mono hsz0)⟩
          have HOW4 : As (OwnL 3 (ET w4 (Old B)) 220 w4 base (.slice (some ⟨g0, 0, none⟩) ts.length cv) ts) := ⟨(HOW.out.below hE4.below).imp fun _ _ h => ET.mv h (Stays.below hE4.below _)⟩
          replace xb0 := hE4.cell xb0
          replace xb1 := hE4.cell xb1
          obtain ⟨At, dt, hrow, hh1, hh2, c0, c1, c2, f0, f1, f2⟩ := HOW4.out.tot HT.out
          have hsz4 : w.heap.size < w4.heap.size := cell_lt xb1
          have hg4 : g0 < w4.heap.size := cell_lt c0
          have e1 : IntKind.i64.wrap (t.high + x.w / 2147483648) = t.high + x.w / 2147483648 := by rw [IntKind.wrap_i64]; omega
          have e2 : IntKind.i64.wrap (t.low + x.w % 2147483648) = t.low + x.w % 2147483648 := by rw [IntKind.wrap_i64]; omega
          have HAT : As (ET w4 (Old B) (addT t x) [.slice At t.row.length dt, .int .i64 (t.high + x.w / 2147483648), .int .i64 (t.low + x.w % 2147483648)]) := ⟨⟨_, rfl, by unfold addT i64; simp only; omega, by unfold addT i64; simp only; omega, hrow⟩⟩
          clear hrow hE4 hlo hhi hh1 hh2 hfw
          go_wp2_with fail
          go_ret
          rw [HI.out]
          have hbz4 : base ≤ w4.heap.size := by omega
          have hS := HOW4.out.set3 (j := k) (x := addT t x) hend HAT.out ⟨rfl, rfl, rfl⟩
          exact PutTPost.of (HB4.out.mono hbw) hbz4 hBb (hS.1.alloc _) ((Below.refl _ _).grown (hS.2.trans (World.grownBy_alloc _ _ _)) hbz4 fun k hk => by injection hk with hk; subst hk; obtain ⟨_, _, hv, hb, _⟩ := HOWN.out.addr (by omega); injection hv with h1; injection h1 with h1; injection h1 with h1; rw [h1]; exact hb)
        · have HI := As.mk (HNEW.out (by omega))
          have hqb : (q == 0) = false := by simpa using hqz
          clear hq0 HINS HNEW
          go_wp2_with fail
          (refine wp_region_quiet_grown (by assumption) (by kernel_rfl) ?_; (repeat (go_big_quiet_step ( (go_at_call 93; exact grown_ext (q1 _ (Ext.grow hE0 _ _))) ))); refine wpQuiet_nil ?_; intro _ hw'; obtain ⟨⟨nq, osq⟩, hw''⟩ := hw'; subst hw'')
          have hE4 : Ext wr (grow (wr.drewN nq) osq) := ⟨nq, osq, rfl⟩
          generalize grow (wr.drewN nq) osq = w4 at *
          clear q1 c0 c1 c2 f0 f1 f2
          clear gc0 gb0 gb1 hE0
          have HB4 : As (Below w.heap.size w w4) := ⟨HBW.out.trans (hE4.below.mono hsz0)⟩
          have HOW4 : As (OwnL 3 (ET w4 (Old B)) 220 w4 base (.slice (some ⟨g0, 0, none⟩) ts.length cv) ts) := ⟨(HOW.out.below hE4.below).imp fun _ _ h => ET.mv h (Stays.below hE4.below _)⟩
          replace xb0 := hE4.cell xb0
          replace xb1 := hE4.cell xb1
          have HNT4 := As.mk (HNT.out.mv (Stays.below hE4.below _))
          have hsz4 : w.heap.size < w4.heap.size := cell_lt xb0
          have hbz4 : base ≤ w4.heap.size := by omega
          have HBB4 : As (Below base w w4) := ⟨HB4.out.mono hbw⟩
          have HLZ : As (ts.length < 4294967296) := ⟨by omega⟩
          have HNO : As ((Value.slice (some ⟨g0, 0, none⟩) ts.length cv).ownBlock ≠ some w.heap.size) := ⟨fun h => by have := (HOWN.out.lt _ h).2; omega⟩
          clear hE4 hfw
          go_wp2_with (at_builtin; go_loud (refine OwnL.append (W := w4) base rfl (.tmp 68) (.tmp 70) 217 220 _ 3 40 rfl Tryz.underlying217 info_total rfl (by decide) (by decide) (.slice (some ⟨g0, 0, none⟩) ts.length cv) ts ⟨[], 0, 0⟩ [.slice none 0 0, .int .i64 0, .int .i64 0] rfl rfl (E := ET w4 (Old B)) ⟨_, rfl, ⟨by decide, by decide⟩, ⟨by decide, by decide⟩, RdL.nil _ _ _ _⟩ rfl (by simp [Value.oneCell']) HOW4.out HBB4.out hbz4 HLZ.out rfl ?_); intro v5 w5 hown5 hb5 hg5 hat5)
          obtain ⟨g1, c1, hv5, hg1, hg1s, hc1, how5⟩ := hown5.addr (by simp)
          rw [List.length_append, List.length_singleton] at hv5 hc1
          subst hv5
          have hxb : some w.heap.size ≠ Value.ownBlock (.slice (some ⟨g0, 0, none⟩) ts.length cv) := fun h => HNO.out h.symm
          have hxg : g1 ≠ w.heap.size := by
            rcases hat5 with h | ⟨b, h, hb⟩
            · intro e
              rw [how5, e] at h
              exact hxb h
            · rw [how5] at h
              injection h with h
              omega
          replace xb0 := hg5.cell xb0 hxb
          replace xb1 := hg5.cell xb1 hxb
          have hsz5 : w.heap.size < w5.heap.size := cell_lt xb0
          obtain ⟨it, hit, hitz⟩ := Option.map_eq_some_iff.1 info_total
          simp only [Prod.mk.injEq] at hitz
          have HG5 := As.mk hg5
          have HB5 : As (Below base w4 w5.drew) := ⟨(((Below.refl _ _).grown HG5.out hbz4 fun k hk => (HOW4.out.lt k hk).1)).trans ((Ext.drew (Ext.refl w5)).below.mono (Nat.le_trans hbz4 HG5.out.size))⟩
          have HMM : As (ts.length - k = Nat.min (ts.length + 1 - k) (ts.length - k)) := ⟨by show _ = min _ _; omega⟩
          have HM1 : As (k + 1 + (ts.length - k) ≤ (ts ++ [(⟨[], 0, 0⟩ : GT)]).length) := ⟨by rw [List.length_append, List.length_singleton]; omega⟩
          have HM2 : As (k + (ts.length - k) ≤ (ts ++ [(⟨[], 0, 0⟩ : GT)]).length) := ⟨by rw [List.length_append, List.length_singleton]; omega⟩
          have HDD : As (0 < ts.length - k → ¬ c1 = k + 1) := ⟨fun h => by omega⟩
          have HSS : As (0 < ts.length - k → ¬ c1 = k) := ⟨fun h => by omega⟩
          have hwk1 : (0 : Int) ≤ (k : Int) + 1 := by omega
          have hwk4 : (k : Int) ≤ (ts.length : Int) + 1 := by omega
          have hwk : IntKind.i64.wrap ((k : Int) + 1) = (k : Int) + 1 := by rw [IntKind.wrap_i64]; omega
          have HO5 : As (OwnL 3 (ET w4 (Old B)) 220 w5.drew base (.slice (some ⟨g1, 0, none⟩) (ts.length + 1) c1) (ts ++ [⟨[], 0, 0⟩])) := ⟨hown5.ext (Ext.drew (Ext.refl _))⟩
          have HIT := As.mk hit
          have HITS := As.mk hitz.2.1
          clear hown5 hb5 hg5 hat5 hit hitz how5
          go_wp2_with fail
          go_region_law (go_loud (refine OwnL.copy_step (w := w5.drew) base rfl (.tmp 75) (.tmp 78) 217 220 it rfl Tryz.underlying217 HIT.out HITS.out g1 (ts.length + 1) c1 (ts ++ [⟨[], 0, 0⟩]) (k + 1) k (ts.length - k) (if c1 = k + 1 then some ⟨g1, 0, none⟩ else some ⟨g1, (k + 1) * 3, none⟩) (if c1 = k then some ⟨g1, 0, none⟩ else some ⟨g1, k * 3, none⟩) (ts.length - k) (c1 - (k + 1)) (ts.length + 1 - k) (c1 - k) (by go_simp) (fun h => if_neg (HDD.out h)) (by go_simp) (fun h => if_neg (HSS.out h)) HMM.out HM1.out HM2.out HO5.out HB5.out ?_); intro w6 hown6 hb6 hg6)
          all_goals
            clear hwk
            have HG6 := As.mk hg6
            have hc6 := hg6.cell (Ext.cell (Ext.drew (Ext.refl w5)) xb0) (by intro h; injection h with h; exact hxg h.symm)
            have hc7 := hg6.cell (Ext.cell (Ext.drew (Ext.refl w5)) xb1) (by intro h; injection h with h; exact hxg h.symm)
            have hsz6 : w.heap.size < w6.heap.size := cell_lt hc6
            obtain ⟨ys, hys⟩ : ∃ ys : List GT, ys = (ts ++ [(⟨[], 0, 0⟩ : GT)]).take (k + 1) ++ ((ts ++ [(⟨[], 0, 0⟩ : GT)]).drop k).take (ts.length - k) ++ (ts ++ [(⟨[], 0, 0⟩ : GT)]).drop (k + 1 + (ts.length - k)) := ⟨_, rfl⟩
            rw [← hys] at hown6
            have hyl : ys.length = ts.length + 1 := by rw [hys]; simp only [List.length_append, List.length_take, List.length_drop, List.length_singleton]; omega
            have HYL : As (k < ys.length) := ⟨by omega⟩
            have HSH : As (ys.set k (newT x) = ts.take k ++ newT x :: ts.drop k) := ⟨by rw [hys]; exact shift_set (by omega)⟩
            obtain ⟨y, hy⟩ : ∃ y, ys[k]? = some y := ⟨_, List.getElem?_eq_getElem HYL.out⟩
            obtain ⟨Ay, dy, _, _, _, k0, k1, k2, l0, l1, l2⟩ := hown6.tot hy
            have HO6 := As.mk hown6
            have HB6 := As.mk hb6
            clear hys hyl hy
            clear xb0 xb1 hg6 hown6 hb6
            go_wp2_with fail
            go_ret
            have hS := HO6.out.set3 (j := k) (x := newT x) HYL.out HNT4.out ⟨rfl, rfl, rfl⟩
            rw [HSH.out] at hS
            rw [HI.out]
            exact PutTPost.of HBB4.out hbz4 hBb hS.1 (HB6.out.grown hS.2 (Nat.le_trans hbz4 HB6.out.size) fun k hk => by injection hk with hk; omega)
      · have hkd : decide ((k : Int) < (ts.length : Int)) = false := decide_eq_false (by omega)
        have hkd2 : decide (k < ts.length) = false := decide_eq_false (by omega)
        have HI : As (insT ts x = ts.take k ++ newT x :: ts.drop k) := ⟨by
          have e : k = ts.length := by omega
          subst e
          rw [insT_end HL.out]; simp⟩
        have hE0 : Ext wr wr := Ext.refl _
        go_wp2_with fail
        (refine wp_region_quiet_grown (by assumption) (by kernel_rfl) ?_; (repeat (go_big_quiet_step ( fail ))); refine wpQuiet_nil ?_; intro _ hw'; obtain ⟨⟨nq, osq⟩, hw''⟩ := hw'; subst hw'')
        have hE4 : Ext wr (grow (wr.drewN nq) osq) := ⟨nq, osq, rfl⟩
        generalize grow (wr.drewN nq) osq = w4 at *
        clear gb0 gb1 hE0
        have HB4 : As (Below w.heap.size w w4) := ⟨HBW.out.trans (hE4.below.mono hsz0)⟩
        have HOW4 : As (OwnL 3 (ET w4 (Old B)) 220 w4 base (.slice Av ts.length cv) ts) := ⟨(HOW.out.below hE4.below).imp fun _ _ h => ET.mv h (Stays.below hE4.below _)⟩
        replace xb0 := hE4.cell xb0
        replace xb1 := hE4.cell xb1
        have HNT4 := As.mk (HNT.out.mv (Stays.below hE4.below _))
        have hsz4 : w.heap.size < w4.heap.size := cell_lt xb0
        have hbz4 : base ≤ w4.heap.size := by omega
        have HBB4 : As (Below base w w4) := ⟨HB4.out.mono hbw⟩
        have HLZ : As (ts.length < 4294967296) := ⟨by omega⟩
        have HNO : As ((Value.slice Av ts.length cv).ownBlock ≠ some w.heap.size) := ⟨fun h => by have := (HOWN.out.lt _ h).2; omega⟩
        clear hE4 hfw
        go_wp2_with (at_builtin; go_loud (refine OwnL.append (W := w4) base rfl (.tmp 68) (.tmp 70) 217 220 _ 3 40 rfl Tryz.underlying217 info_total rfl (by decide) (by decide) (.slice Av ts.length cv) ts ⟨[], 0, 0⟩ [.slice none 0 0, .int .i64 0, .int .i64 0] rfl rfl (E := ET w4 (Old B)) ⟨_, rfl, ⟨by decide, by decide⟩, ⟨by decide, by decide⟩, RdL.nil _ _ _ _⟩ rfl (by simp [Value.oneCell']) HOW4.out HBB4.out hbz4 HLZ.out rfl ?_); intro v5 w5 hown5 hb5 hg5 hat5)
        obtain ⟨g1, c1, hv5, hg1, hg1s, hc1, how5⟩ := hown5.addr (by simp)
        rw [List.length_append, List.length_singleton] at hv5 hc1
        subst hv5
        have hxb : some w.heap.size ≠ Value.ownBlock (.slice Av ts.length cv) := fun h => HNO.out h.symm
        have hxg : g1 ≠ w.heap.size := by
          rcases hat5 with h | ⟨b, h, hb⟩
          · intro e
            rw [how5, e] at h
            exact hxb h
          · rw [how5] at h
            injection h with h
            omega
        replace xb0 := hg5.cell xb0 hxb
        replace xb1 := hg5.cell xb1 hxb
        have hsz5 : w.heap.size < w5.heap.size := cell_lt xb0
        obtain ⟨it, hit, hitz⟩ := Option.map_eq_some_iff.1 info_total
        simp only [Prod.mk.injEq] at hitz
        have HG5 := As.mk hg5
        have HB5 : As (Below base w4 w5.drew) := ⟨(((Below.refl _ _).grown HG5.out hbz4 fun k hk => (HOW4.out.lt k hk).1)).trans ((Ext.drew (Ext.refl w5)).below.mono (Nat.le_trans hbz4 HG5.out.size))⟩
        have HMM : As (ts.length - k = Nat.min (ts.length + 1 - k) (ts.length - k)) := ⟨by show _ = min _ _; omega⟩
        have HM1 : As (k + 1 + (ts.length - k) ≤ (ts ++ [(⟨[], 0, 0⟩ : GT)]).length) := ⟨by rw [List.length_append, List.length_singleton]; omega⟩
        have HM2 : As (k + (ts.length - k) ≤ (ts ++ [(⟨[], 0, 0⟩ : GT)]).length) := ⟨by rw [List.length_append, List.length_singleton]; omega⟩
        have HDD : As (0 < ts.length - k → ¬ c1 = k + 1) := ⟨fun h => by omega⟩
        have HSS : As (0 < ts.length - k → ¬ c1 = k) := ⟨fun h => by omega⟩
        have hwk1 : (0 : Int) ≤ (k : Int) + 1 := by omega
        have hwk4 : (k : Int) ≤ (ts.length : Int) + 1 := by omega
        have hwk : IntKind.i64.wrap ((k : Int) + 1) = (k : Int) + 1 := by rw [IntKind.wrap_i64]; omega
        have HO5 : As (OwnL 3 (ET w4 (Old B)) 220 w5.drew base (.slice (some ⟨g1, 0, none⟩) (ts.length + 1) c1) (ts ++ [⟨[], 0, 0⟩])) := ⟨hown5.ext (Ext.drew (Ext.refl _))⟩
        have HIT := As.mk hit
        have HITS := As.mk hitz.2.1
        clear hown5 hb5 hg5 hat5 hit hitz how5
        go_wp2_with fail
        go_region_law (go_loud (refine OwnL.copy_step (w := w5.drew) base rfl (.tmp 75) (.tmp 78) 217 220 it rfl Tryz.underlying217 HIT.out HITS.out g1 (ts.length + 1) c1 (ts ++ [⟨[], 0, 0⟩]) (k + 1) k (ts.length - k) (if c1 = k + 1 then some ⟨g1, 0, none⟩ else some ⟨g1, (k + 1) * 3, none⟩) (if c1 = k then some ⟨g1, 0, none⟩ else some ⟨g1, k * 3, none⟩) (ts.length - k) (c1 - (k + 1)) (ts.length + 1 - k) (c1 - k) (by go_simp) (fun h => if_neg (HDD.out h)) (by go_simp) (fun h => if_neg (HSS.out h)) HMM.out HM1.out HM2.out HO5.out HB5.out ?_); intro w6 hown6 hb6 hg6)
        all_goals
          clear hwk
          have HG6 := As.mk hg6
          have hc6 := hg6.cell (Ext.cell (Ext.drew (Ext.refl w5)) xb0) (by intro h; injection h with h; exact hxg h.symm)
          have hc7 := hg6.cell (Ext.cell (Ext.drew (Ext.refl w5)) xb1) (by intro h; injection h with h; exact hxg h.symm)
          have hsz6 : w.heap.size < w6.heap.size := cell_lt hc6
          obtain ⟨ys, hys⟩ : ∃ ys : List GT, ys = (ts ++ [(⟨[], 0, 0⟩ : GT)]).take (k + 1) ++ ((ts ++ [(⟨[], 0, 0⟩ : GT)]).drop k).take (ts.length - k) ++ (ts ++ [(⟨[], 0, 0⟩ : GT)]).drop (k + 1 + (ts.length - k)) := ⟨_, rfl⟩
          rw [← hys] at hown6
          have hyl : ys.length = ts.length + 1 := by rw [hys]; simp only [List.length_append, List.length_take, List.length_drop, List.length_singleton]; omega
          have HYL : As (k < ys.length) := ⟨by omega⟩
          have HSH : As (ys.set k (newT x) = ts.take k ++ newT x :: ts.drop k) := ⟨by rw [hys]; exact shift_set (by omega)⟩
          obtain ⟨y, hy⟩ : ∃ y, ys[k]? = some y := ⟨_, List.getElem?_eq_getElem HYL.out⟩
          obtain ⟨Ay, dy, _, _, _, k0, k1, k2, l0, l1, l2⟩ := hown6.tot hy
          have HO6 := As.mk hown6
          have HB6 := As.mk hb6
          clear hys hyl hy
          clear xb0 xb1 hg6 hown6 hb6
          go_wp2_with fail
          all_goals
            try ((have hcz : c1 = k + 1 := (by assumption)); subst hcz)
            go_ret
            have hS := HO6.out.set3 (j := k) (x := newT x) HYL.out HNT4.out ⟨rfl, rfl, rfl⟩
            rw [HSH.out] at hS
            rw [HI.out]
            exact PutTPost.of HBB4.out hbz4 hBb hS.1 (HB6.out.grown hS.2 (Nat.le_trans hbz4 HB6.out.size) fun k hk => by injection hk with hk; omega)
end Go.Proofs.YtflckpfpgpfjlaaGreatDoor
end
section
namespace Go.Proofs.YtflckpfpgpfjlaaGreatDoor
open Go.RowKit Go.Sort
theorem badE_cases (x : GE) : badE x = (!fair x.w || !rsound x.row) := rfl
theorem any_bad {l : List GE} {k : Nat} {x : GE} (h : l[k]? = some x) (hb : badE x = true) : l.any badE = true := List.any_eq_true.2 ⟨x, List.mem_of_getElem? h, hb⟩
theorem take_bad {l : List GE} (h : ∀ x ∈ l.take l.length, badE x = false) : l.any badE = false := by
  rw [List.take_length] at h
  rw [List.any_eq_false]
  intro x hx
  rw [h x hx]; simp
theorem take_snoc {α : Type} {l : List α} {k : Nat} {x : α} (h : l[k]? = some x) : l.take (k + 1) = l.take k ++ [x] := by rw [List.take_add_one, h]; rfl
set_option maxHeartbeats 8000000 in
set_option maxRecDepth 100000 in
theorem r3Make_any (v : Value) (l : List GE) (w : World) (hl : RdZ w AnyB v l) (hlen : l.length ≤ 2147483648) : Calls Tryz.prog 94 #[v] w (MakePost l w) := by
  have mixed := mixed
  obtain ⟨A, c, rfl, hc⟩ := hl.shape
  have HL := As.mk hl
  have HV := As.mk hl.vals
  clear hl
  have HO0 : As (OwnL 3 (ET (w.alloc (.cells #[] 220)) (Old w.heap.size)) 220 (w.alloc (.cells #[] 220)) w.heap.size (.slice (some ⟨w.heap.size, 0, none⟩) 0 0) []) := ⟨OwnL.made 3 _ 220 w w.heap.size #[] 0 (Nat.le_refl _) (by decide) rfl⟩
  go_enter Tryz.func94, Tryz.ntmps94
  go_wp2_with fail
  go_loopg [4, 5] l.length (fun g s4 s5 wr => ∃ (k : Nat) (ts : List GT), k ≤ l.length ∧ l.length - k ≤ g ∧ s5 = .int .i64 k ∧ As (OwnL 3 (ET wr (Old w.heap.size)) 220 wr w.heap.size s4 ts) ∧ As (Below w.heap.size w wr) ∧ As (TInv (l.take k) ts) ∧ As (∀ x ∈ l.take k, badE x = false))
  case atStart => exact ⟨0, [], by omega, by omega, by go_num, HO0, ⟨(Below.refl _ _).alloc (Nat.le_refl _) _⟩, ⟨by simpa using TInv.nil⟩, ⟨by simp⟩⟩
  case round =>
    obtain ⟨k, ts, hk, hg, rfl, HO, HB, HT, HN⟩ := hrel
    have hsz := HB.out.size
    by_cases hlt : k < l.length
    · have hltz : (k : Int) < (l.length : Int) := by omega
      obtain ⟨x, hx⟩ : ∃ x, l[k]? = some x := ⟨_, List.getElem?_eq_getElem hlt⟩
      have HX := As.mk hx
      obtain ⟨b, o, c', A0, d0, hv, hb, hxi, hrx, e0, e1⟩ := RdZ.ent HL.out hx
      injection hv with hA _ hcc
      subst hA
      replace e0 := (HB.out.cell (World.block_lt_of_cell? w _ e0)).trans e0
      replace e1 := (HB.out.cell (World.block_lt_of_cell? w _ e1)).trans e1
      have HRX : As (RdV wr (Old w.heap.size) (.slice A0 x.row.length d0) x.row) := ⟨(hrx.mv (Stays.old w _)).ext HB.out⟩
      have HVX := As.mk (HV.out x (List.mem_of_getElem? hx))
      have s1 := fun W => r3fair_any x.w W
      have s2 := fun W (hE : Ext wr W) => r2Sound_any _ x.row W ((HRX.out.mv (Stays.any _ _)).ext hE.below)
      have HBC := As.mk (badE_cases x)
      clear hx hrx hcc
      obtain ⟨xr, xw⟩ := x
      simp only at *
      cases hf : fair xw with
      | false =>
        rw [hf] at s1 HBC
        have HFB : As (badE ⟨xr, xw⟩ = true) := ⟨by rw [HBC.out]; rfl⟩
        clear hf HBC s2
        go_wp2_with (go_at_call 91; refine (s1 _).mono ?_; rintro e w1 ⟨rfl, rfl⟩)
        go_ret2
        exact MakePost.bad HB.out (any_bad HX.out HFB.out)
      | true =>
        cases hs : rsound xr with
        | false =>
          rw [hf] at s1
          rw [hs] at s2
          rw [hf, hs] at HBC
          have HFB : As (badE ⟨xr, xw⟩ = true) := ⟨by rw [HBC.out]; rfl⟩
          clear hf hs HBC
          go_wp2_with (first | (go_at_call 91; refine (s1 _).mono ?_; rintro e w1 ⟨rfl, rfl⟩) | (go_at_call 92; refine (s2 _ (Ext.refl _)).mono ?_; rintro e w2 ⟨rfl, hE⟩))
          go_ret2
          exact MakePost.bad (HB.out.trans (hE.below.mono hsz)) (any_bad HX.out HFB.out)
        | true =>
          rw [hf] at s1
          rw [hs] at s2
          rw [hf, hs] at HBC
          have HFB : As (badE ⟨xr, xw⟩ = false) := ⟨by rw [HBC.out]; rfl⟩
          have HTK : As (l.take (k + 1) = l.take k ++ [⟨xr, xw⟩]) := ⟨take_snoc HX.out⟩
          have HST : As (TInv (l.take (k + 1)) (insT ts ⟨xr, xw⟩)) := ⟨by rw [HTK.out]; exact HT.out.step ⟨hs, HVX.out⟩ hf⟩
          have HKL : As ((l.take k).length = k) := ⟨by rw [List.length_take]; omega⟩
          have HP := As.mk (fun W (hE : Ext wr W) => r3put_any w.heap.size w.heap.size _ ts A0 d0 ⟨xr, xw⟩ W ((HO.out.ext hE).imp fun _ _ h => ET.mv h (Stays.below hE.below _)) (Nat.le_refl _) (Nat.le_trans hsz hE.size) (HRX.out.ext hE.below) ⟨hs, HVX.out⟩ hf (fun t ht => HT.out.row t ht) HT.out.rise
            (by have := HT.out.len; have := HKL.out; omega)
            (fun t ht => by have h1 := HT.out.low t ht; rw [HKL.out] at h1; omega)
            (fun t ht => by have h1 := HT.out.high t ht; rw [HKL.out] at h1; omega))
          clear hf hs HBC
          go_wp2_with (first | (go_at_call 91; refine (s1 _).mono ?_; rintro e w1 ⟨rfl, rfl⟩) | (go_at_call 92; refine (s2 _ (Ext.refl _)).mono ?_; rintro e w2 ⟨rfl, hE⟩; have f0 := hE.cell e0; have f1 := hE.cell e1) | (go_at_call 151; refine (HP.out _ hE).mono ?_; rintro e w3 ⟨u3, rfl, hown, hB3⟩))
          go_roundg (l.length - (k + 1))
          case measure => omega
          case rel => exact ⟨k + 1, insT ts ⟨xr, xw⟩, by omega, by omega, by go_num, ⟨hown⟩, ⟨(HB.out.trans (hE.below.mono hsz)).trans hB3⟩, HST, ⟨fun y hy => by
            rw [HTK.out] at hy
            rcases List.mem_append.1 hy with hy | hy
            · exact HN.out y hy
            · rw [List.mem_singleton.1 hy]; exact HFB.out⟩⟩
    · have hltz : ¬ (k : Int) < (l.length : Int) := by omega
      obtain rfl : k = l.length := by omega
      have HNB : As (l.any badE = false) := ⟨take_bad HN.out⟩
      have HT2 : As (TInv l ts) := ⟨by have := HT.out; rwa [List.take_length] at this⟩
      clear HN HT hltz
      obtain ⟨A4, c4, rfl, hc4⟩ := HO.out.shape
      have htl := HT2.out.len
      have HOUT : As (OwnL 2 (EE (wr.alloc (.cells #[] 66)) (Fresh wr.heap.size [96])) 66 (wr.alloc (.cells #[] 66)) wr.heap.size (.slice (some ⟨wr.heap.size, 0, none⟩) 0 0) []) := ⟨OwnL.made 2 _ 66 wr wr.heap.size #[] 0 (Nat.le_refl _) (by decide) rfl⟩
      generalize hwo : wr = wo at *
      clear hwo
      go_wp2_with fail
      go_loopg [6, 7, 8, 9] ts.length (fun g s6 s7 _ _ wr => ∃ (k : Nat), k ≤ ts.length ∧ ts.length - k ≤ g ∧ s7 = .int .i64 k ∧ As (OwnL 2 (EE wr (Fresh wo.heap.size [96])) 66 wr wo.heap.size s6 (outT (ts.take k))) ∧ As (Below wo.heap.size wo wr) ∧ As (∀ t ∈ ts.take k, fair t.sum = true))
      case atStart => exact ⟨0, by omega, by omega, by go_num, HOUT, ⟨(Below.refl _ _).alloc (Nat.le_refl _) _⟩, ⟨by simp⟩⟩
      case round =>
        obtain ⟨k, hk2, hg2, rfl, HOT, HBW, HFR⟩ := hrel
        have hbz := HBW.out.size
        have HBT : As (Below w.heap.size w wr) := ⟨HB.out.trans (HBW.out.mono hsz)⟩
        by_cases hlt2 : k < ts.length
        · have hltz2 : (k : Int) < (ts.length : Int) := by omega
          obtain ⟨g0, rfl⟩ : ∃ g0, A4 = some ⟨g0, 0, none⟩ := by
            obtain ⟨g, c, hv, _⟩ := HO.out.addr (by omega)
            injection hv with h1
            exact ⟨g, h1⟩
          obtain ⟨t, ht⟩ : ∃ t, ts[k]? = some t := ⟨_, List.getElem?_eq_getElem hlt2⟩
          have HTT := As.mk ht
          obtain ⟨At, dt, hrow, hh1, hh2, c0, c1, c2, _, _, _⟩ := (HO.out.below HBW.out).tot ht
          have HROW := As.mk ((hrow.mv (Stays.any _ _)).ext HBW.out)
          have htm := List.mem_of_getElem? ht
          have hlo := HT2.out.low t htm
          have hhi := HT2.out.high t htm
          have HW := As.mk (r3weight_any At t.row.length dt t.high t.low wr (by omega) (by omega))
          have HTK : As (ts.take (k + 1) = ts.take k ++ [t]) := ⟨take_snoc ht⟩
          have HTS : As (t.high * 2147483648 + t.low = t.sum) := ⟨rfl⟩
          have HTM := As.mk htm
          rw [HTS.out] at HW
          clear ht hrow hlo hhi htm hh1 hh2
          obtain ⟨tr, th, tl⟩ := t
          simp only at *
          generalize hs : (GT.mk tr th tl).sum = s at *
          have HSE := As.mk hs
          clear hs HTS
          go_wp2_with fail
          refine HW.out.mono ?_
          rintro e w6 ⟨xw, rfl, hxf, hE6⟩
          have HXF := As.mk hxf
          have hB6 := hE6.below
          have HB6 := As.mk hB6
          have hsz6 := hB6.size
          have d0 := hE6.cell c0
          clear hxf hE6 HW hB6
          cases hfr : fair s with
          | false =>
            have HOV : As (overL l = true) := ⟨HT2.out.over HTM.out (by rw [HSE.out]; exact hfr)⟩
            clear hfr
            go_wp2_with fail
            go_ret2
            exact MakePost.over (HBT.out.trans (HB6.out.mono HBT.out.size)) HNB.out HOV.out
          | true =>
            obtain rfl : xw = s := HXF.out hfr
            have HFX := As.mk hfr
            clear hfr
            have HFR2 : As (∀ t ∈ ts.take (k + 1), fair t.sum = true) := ⟨fun t ht => by
              rw [HTK.out] at ht
              rcases List.mem_append.1 ht with ht | ht
              · exact HFR.out t ht
              · rw [List.mem_singleton.1 ht, HSE.out]; exact HFX.out⟩
            have HOX : As (outT (ts.take (k + 1)) = if xw = 0 then outT (ts.take k) else outT (ts.take k) ++ [⟨tr, xw⟩]) := ⟨by rw [HTK.out, outT_snoc, HSE.out]⟩
            have HO6 : As (OwnL 2 (EE w6 (Fresh wo.heap.size [96])) 66 w6 wo.heap.size u6 (outT (ts.take k))) := ⟨(HOT.out.below HB6.out).imp fun _ _ h => EE.mv h (Stays.below HB6.out _)⟩
            have HBW6 : As (Below wo.heap.size wo w6) := ⟨HBW.out.trans (HB6.out.mono hbz)⟩
            by_cases hs0 : xw = 0
            · subst hs0
              rw [if_pos rfl] at HOX
              go_wp2_with fail
              go_roundg (ts.length - (k + 1))
              case measure => omega
              case rel => exact ⟨k + 1, by omega, by omega, by go_num, ⟨by rw [HOX.out]; exact HO6.out⟩, HBW6, HFR2⟩
            · have hsb : (xw != 0) = true := by simpa using hs0
              rw [if_neg hs0] at HOX
              have HXI := As.mk (fair_i64 HFX.out)
              have HCL := As.mk (r3copied_any (.slice At tr.length dt) tr w6 (HROW.out.ext HB6.out))
              have HLZ : As ((outT (ts.take k)).length < 4294967296) := ⟨by have := outT_len (ts.take k); rw [List.length_take] at this; omega⟩
              generalize outT (ts.take k) = outs at *
              clear hs0
              go_wp2_with (first | (go_at_call 153; refine HCL.out.mono ?_; rintro e w7 ⟨u7, rfl, hu7, hB7⟩; obtain ⟨A7, d7, rfl, _⟩ := hu7.shape; have HU7 := As.mk (hu7.mv (Stays.mono (ok' := Fresh wo.heap.size [96]) fun k t h => ⟨Nat.le_trans HBW6.out.size h.1, h.2⟩)); have HO7 := As.mk ((HO6.out.below hB7).imp fun _ _ h => EE.mv h (Stays.below hB7 _)); have HBW7 := As.mk (HBW6.out.trans (hB7.mono HBW6.out.size)); have hbz := HBW7.out.size; clear hu7 hB7) | (at_builtin; go_loud (refine OwnL.append (W := w7) wo.heap.size rfl (.tmp 58) (.tmp 67) 35 66 _ 2 32 rfl Tryz.underlying35 info_entry rfl (by decide) (by decide) u6 outs ⟨tr, xw⟩ [.slice A7 tr.length d7, .int .i64 xw] rfl rfl (E := EE w7 (Fresh wo.heap.size [96])) ⟨_, rfl, HXI.out, HU7.out⟩ rfl (by simp [Value.oneCell']) HO7.out HBW7.out hbz HLZ.out rfl ?_); intro v1 w8 hown hb' hg' hat; have HO8 := As.mk (hown.imp fun _ _ h => EE.mv h (HO7.out.rowStays hg' (ok := Fresh wo.heap.size [96]) (fun k h => by have := h.2; simp at this))); have HBW8 := As.mk hb'; clear hown hb' hg' hat))
              go_roundg (ts.length - (k + 1))
              case measure => omega
              case rel => exact ⟨k + 1, by omega, by omega, by go_num, ⟨by rw [HOX.out]; exact HO8.out⟩, HBW8, HFR2⟩
        · have hltz2 : ¬ (k : Int) < (ts.length : Int) := by omega
          obtain rfl : k = ts.length := by omega
          rw [List.take_length] at HOT HFR
          have HZ2 : As (RdZ2 wr wo.heap.size u6 (outT ts)) := ⟨HOT.out.rd fun k hk => ⟨hk, by simp⟩⟩
          have HLE : As ((outT ts).length ≤ l.length) := ⟨Nat.le_trans (outT_len ts) htl⟩
          go_wp2_with fail
          go_ret2
          exact MakePost.good HBT.out HNB.out (HT2.out.notOver HFR.out) (HT2.out.made HFR.out) (HZ2.out.low hsz) HLE.out
set_option maxHeartbeats 4000000 in
set_option maxRecDepth 100000 in
theorem r3Add_any (u v : Value) (a b : List GE) (w : World) (ha : RdZ w AnyB u a) (hb : RdZ w AnyB v b) (hl : a.length + b.length ≤ 2147483648) : Calls Tryz.prog 46 #[u, v] w (AddPost a b w) := by
  have h1 := r3Sound_any u a w ha
  have h2 := fun W (hE : Below w.heap.size w W) => r3Sound_any v b W (hb.ext hE)
  obtain ⟨A, c, rfl, _⟩ := ha.shape
  obtain ⟨B, d, rfl, _⟩ := hb.shape
  have HA := As.mk ha
  have HB := As.mk hb
  have HL := As.mk hl
  clear ha hb hl
  cases hsa : zsound a with
  | false =>
    rw [hsa] at h1
    have HS := As.mk hsa
    clear hsa h2
    go_enter Tryz.func46, Tryz.ntmps46
    go_wp2_with (go_at_call 45; refine h1.mono ?_; rintro e w1 ⟨rfl, hE⟩)
    go_ret2
    exact AddPost.bad hE.below (.inl HS.out)
  | true =>
    rw [hsa] at h1
    have HS := As.mk hsa
    clear hsa
    cases hsb : zsound b with
    | false =>
      have HS2 := As.mk hsb
      rw [hsb] at h2
      clear hsb
      go_enter Tryz.func46, Tryz.ntmps46
      go_wp2_with fail
      refine h1.mono ?_
      rintro e w1 ⟨rfl, hE⟩
      go_wp2_with fail
      refine (h2 _ hE.below).mono ?_
      rintro e w2 ⟨rfl, hE2⟩
      go_wp2_with fail
      go_ret2
      exact AddPost.bad (hE.below.trans (hE2.below.mono hE.size)) (.inr HS2.out)
    | true =>
      have HS2 := As.mk hsb
      rw [hsb] at h2
      clear hsb
      go_enter Tryz.func46, Tryz.ntmps46
      go_wp2_with fail
      refine h1.mono ?_
      rintro e w1 ⟨rfl, hE⟩
      go_wp2_with fail
      refine (h2 _ hE.below).mono ?_
      rintro e w2 ⟨rfl, hE2⟩
      have HB2 : As (Below w.heap.size w w2) := ⟨hE.below.trans (hE2.below.mono hE.size)⟩
      have HR1 : As (RdL 2 (EE (w2.alloc (.cells #[] 66)) (Old w2.heap.size)) (w2.alloc (.cells #[] 66)) AnyB (.slice A a.length c) a) := ⟨RdL.move ((HA.out.ext HB2.out).mv (Stays.old w2 _)) (fun _ _ e => EE.mv e (Stays.below (Ext.alloc (Ext.refl w2) _).below _)) ((Stays.below (Ext.alloc (Ext.refl w2) _).below _).trans (Stays.any _ _))⟩
      have HR2 : As (RdL 2 (EE (w2.alloc (.cells #[] 66)) (Old w2.heap.size)) (w2.alloc (.cells #[] 66)) (Old w2.heap.size) (.slice B b.length d) b) := ⟨RdL.move ((HB.out.ext HB2.out).mv (Stays.old w2 _)) (fun _ _ e => EE.mv e (Stays.below (Ext.alloc (Ext.refl w2) _).below _)) (Stays.below (Ext.alloc (Ext.refl w2) _).below _)⟩
      have HO0 : As (OwnL 2 (EE (w2.alloc (.cells #[] 66)) (Old w2.heap.size)) 66 (w2.alloc (.cells #[] 66)) w2.heap.size (.slice (some ⟨w2.heap.size, 0, none⟩) 0 0) []) := ⟨OwnL.made 2 _ 66 w2 w2.heap.size #[] 0 (Nat.le_refl _) (by decide) rfl⟩
      have HB0 : As (Below w2.heap.size w2 (w2.alloc (.cells #[] 66))) := ⟨(Below.refl _ _).alloc (Nat.le_refl _) _⟩
      have HL1 : As (([] : List GE).length + a.length ≤ 4294967296) := ⟨by have := HL.out; simp; omega⟩
      have HL2 : As (a.length + b.length ≤ 4294967296) := ⟨by have := HL.out; omega⟩
      have HBZ : As (w2.heap.size ≤ (w2.alloc (.cells #[] 66)).heap.size) := ⟨by simp⟩
      obtain ⟨l, hlab⟩ : ∃ l, l = a ++ b := ⟨_, rfl⟩
      have HLAB := As.mk hlab
      clear h1 h2 hE hE2 hlab
      go_wp2_with (first | (at_builtin; (refine OwnL.appends2 (α := GE) (W := w2.alloc (.cells #[] 66)) w2.heap.size rfl (.tmp 16) (.tmp 17) 34 35 66 66 _ 2 32 rfl Tryz.underlying34 Tryz.underlying35 info_entry rfl (by decide) (by decide) _ [] a _ _ _ rfl rfl HR1.out HO0.out HB0.out HBZ.out HL1.out ?_); intro v3 w3 hown hb3 hg3 hat3; rw [List.nil_append] at hown; obtain ⟨A3, c3, rfl, _⟩ := hown.shape; have HO3 := As.mk hown; have HB3 := As.mk hb3; have HR3 := As.mk (RdL.move HR2.out (fun _ _ e => e) ((Stays.grown hg3 (Old w2.heap.size) (fun g t cells fr hgb hh ho => by have h1 := (HO0.out.lt g hgb).1; have h2 : g < w2.heap.size := ho; omega)).trans (Stays.any _ _))); have HBZ3 := As.mk hb3.size; clear hown hb3 hg3 hat3) | (at_builtin; (refine OwnL.appends2 (α := GE) (W := w3) w2.heap.size rfl (.tmp 19) (.tmp 20) 34 35 66 66 _ 2 32 rfl Tryz.underlying34 Tryz.underlying35 info_entry rfl (by decide) (by decide) _ a b _ _ _ rfl rfl HR3.out HO3.out HB3.out HBZ3.out HL2.out ?_); intro v4 w4 hown hb4 hg4 hat4; rw [← HLAB.out] at hown; obtain ⟨A4, c4, rfl, _⟩ := hown.shape; have HO4 := As.mk hown; have HB4 := As.mk hb4; clear hown hb4 hg4 hat4))
      have hst : Stays (w2.alloc (.cells #[] 66)) w4 (Old w2.heap.size) (Old w2.heap.size) := fun k t cells fr ho hh => ⟨ho, by
        have hk : k < w2.heap.size := ho.1
        rw [HB4.out.block k hk, ← hh, HB0.out.block k hk]⟩
      have HRAB : As (RdZ w4 AnyB (.slice A4 l.length c4) l) := ⟨RdL.move (HO4.out.rd (ok := AnyB) fun _ _ => trivial) (fun _ _ e => EE.mv e (hst.trans (Stays.any _ _))) (Stays.any _ _)⟩
      have hm := r3Make_any _ l w4 HRAB.out (by rw [HLAB.out, List.length_append]; exact HL.out)
      clear hst
      go_wp2_with fail
      refine hm.mono ?_
      rintro e w5 hpost
      have HP := As.mk hpost
      obtain ⟨A5, n5, c5, k5, rfl⟩ := hpost.shape
      clear hpost hm
      go_wp2_with fail
      go_ret2
      have hp := HP.out
      rw [HLAB.out] at hp
      exact AddPost.of (HB2.out.trans (HB4.out.mono HB2.out.size)) HS.out HS2.out hp
end Go.Proofs.YtflckpfpgpfjlaaGreatDoor
end
