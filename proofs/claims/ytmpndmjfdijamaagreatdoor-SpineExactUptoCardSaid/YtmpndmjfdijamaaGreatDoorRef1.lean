/- The walks of the reference's values: Plain, Sound, Compare. -/
import Derived.Test.YtmpndmjfdijamaaGreatDoorTotal
set_option linter.unusedVariables false
set_option linter.unusedSimpArgs false
namespace Go.Proofs.YtmpndmjfdijamaaGreatDoor
open Go.RowKit Go.Sort
attribute [local go_sem ↓] eqVal neVal
def rnan (f : Int) : Bool := decide (9218868437227405312 < bits BinOp.and .u64 f 9223372036854775807)
theorem and_low {f : Int} (h : u64 f) : bits BinOp.and .u64 f 9223372036854775807 = f % 9223372036854775808 := by
  obtain ⟨h1, h2⟩ := h
  exact bits_mask .u64 64 (by decide) (by intro n h1 h2; rw [IntKind.wrap_u64]; omega) 63 (by decide) f h1 (by omega)
theorem rnan_eq {f : Int} (h : u64 f) : rnan f = fnan f.toNat := by
  unfold rnan
  rw [and_low h, fnan_rung]
  obtain ⟨h1, h2⟩ := h
  unfold frung
  have : f % 9223372036854775808 = ((f.toNat % 9223372036854775808 : Nat) : Int) := by omega
  rw [this]
  rw [Bool.eq_iff_iff, decide_eq_true_eq, decide_eq_true_eq]
  omega
theorem r1isNaN_any (f : Int) (w : World) : Calls Tryz.prog 137 #[.int .u64 f] w fun e w' => e = .returned (.bool (rnan f)) ∧ w = w' := by
  go_enter Tryz.func137, Tryz.ntmps137
  go_wp2
  go_ret
  exact ⟨ret_bool (by first | rfl | (unfold rnan; simp)), rfl⟩
theorem r1Plain_any (f : Int) (hf : u64 f) (w : World) : Calls Tryz.prog 109 #[.int .u64 f] w fun e w' => e = .returned (.int .u64 (vplain f)) ∧ w = w' := by
  have hn := rnan_eq hf
  by_cases h : f = 9223372036854775808
  · subst h
    have hv : vplain 9223372036854775808 = 0 := by decide
    rw [hv]
    clear hn hv
    go_enter Tryz.func109, Tryz.ntmps109
    go_wp2
    go_ret
    exact ⟨rfl, rfl⟩
  · have hb : (f == 9223372036854775808) = false := by simpa using h
    have hv : vplain f = if rnan f = true then 9221120237041090560 else f := by unfold vplain; rw [hn, hb]; simp
    rw [hv]
    have s1 := fun W => r1isNaN_any f W
    clear hn hv h hf
    cases hr : rnan f
    · rw [hr] at s1
      clear hr
      go_enter Tryz.func109, Tryz.ntmps109
      go_wp2_with (go_at_call 137; refine (s1 _).mono ?_; rintro e w1 ⟨rfl, rfl⟩)
      go_ret
      exact ⟨rfl, rfl⟩
    · rw [hr] at s1
      clear hr
      go_enter Tryz.func109, Tryz.ntmps109
      go_wp2_with (go_at_call 137; refine (s1 _).mono ?_; rintro e w1 ⟨rfl, rfl⟩)
      go_ret
      exact ⟨rfl, rfl⟩
/-- A number in the order of floats. -/
def rkey (f : Int) : Int := if 9223372036854775808 ≤ f then 18446744073709551615 - f else f + 9223372036854775808
theorem xor_max {f : Int} (h : u64 f) : bits BinOp.xor .u64 18446744073709551615 f = 18446744073709551615 - f := by
  obtain ⟨h1, h2⟩ := h
  obtain ⟨n, rfl⟩ := Int.eq_ofNat_of_zero_le h1
  show IntKind.u64.wrap ((BitVec.ofInt 64 18446744073709551615 ^^^ BitVec.ofInt 64 (n : Int)).toNat : Int) = _
  rw [show BitVec.ofInt 64 18446744073709551615 = BitVec.allOnes 64 by decide, BitVec.allOnes_xor, BitVec.toNat_not, BitVec.ofInt_natCast, BitVec.toNat_ofNat, IntKind.wrap_u64]
  omega
theorem or_high {f : Int} (h1 : 0 ≤ f) (h2 : f < 9223372036854775808) : bits BinOp.or .u64 f 9223372036854775808 = f + 9223372036854775808 := by
  obtain ⟨n, rfl⟩ := Int.eq_ofNat_of_zero_le h1
  have h := bits_or_u64_nat n 9223372036854775808 (by omega) (by decide)
  have e : n ||| 9223372036854775808 = n + 9223372036854775808 := by
    have := Nat.two_pow_add_eq_or_of_lt (i := 63) (b := n) (by omega) 1
    rw [Nat.or_comm]
    simpa [Nat.add_comm] using this.symm
  rw [e] at h
  have h' : bits BinOp.or .u64 (n : Int) 9223372036854775808 = ((n + 9223372036854775808 : Nat) : Int) := h
  rw [h', Int.natCast_add]
  rfl
theorem r1key_any (f : Int) (hf : u64 f) (w : World) : Calls Tryz.prog 119 #[.int .u64 f] w fun e w' => e = .returned (.int .u64 (rkey f)) ∧ w = w' := by
  by_cases h : 9223372036854775808 ≤ f
  · have hb : (f / 9223372036854775808 == 1) = true := by
      obtain ⟨h1, h2⟩ := hf
      have : f / 9223372036854775808 = 1 := by omega
      simpa using this
    have hx := xor_max hf
    have hv : rkey f = 18446744073709551615 - f := by unfold rkey; rw [if_pos h]
    rw [hv, ← hx]
    clear hv hx h hf
    go_enter Tryz.func119, Tryz.ntmps119
    go_wp2
    go_ret
    exact ⟨rfl, rfl⟩
  · have hb : (f / 9223372036854775808 == 1) = false := by
      obtain ⟨h1, h2⟩ := hf
      have : f / 9223372036854775808 = 0 := by omega
      rw [this]; rfl
    have hx := or_high hf.1 (by omega)
    have hv : rkey f = f + 9223372036854775808 := by unfold rkey; rw [if_neg h]
    rw [hv, ← hx]
    clear hv hx h hf
    go_enter Tryz.func119, Tryz.ntmps119
    go_wp2
    go_ret
    exact ⟨rfl, rfl⟩
theorem rkey_cmp {a b : Int} (ha : u64 a) (hb : u64 b) (pa : vplain a = a) (pb : vplain b = b) : icmp (rkey a) (rkey b) = fcmp a.toNat b.toNat := by
  have key : ∀ c : Int, u64 c → vplain c = c → (fnan c.toNat = true ∧ c = 9221120237041090560) ∨ (fnan c.toNat = false ∧ c ≠ 9223372036854775808 ∧ frung c.toNat ≤ 9218868437227405312) := by
    intro c hc pc
    unfold vplain at pc
    cases hn : fnan c.toNat
    · rw [hn] at pc
      refine .inr ⟨rfl, ?_, ?_⟩
      · intro e
        rw [e] at pc
        simp at pc
      · rw [fnan_rung] at hn
        have := of_decide_eq_false hn
        omega
    · rw [hn, if_pos rfl] at pc
      exact .inl ⟨rfl, pc.symm⟩
  have val : ∀ c : Int, u64 c → vplain c = c → (9223372036854775808 ≤ c ∧ fkey c.toNat = 9223372036854775808 - c ∧ c ≠ 9223372036854775808) ∨ (c < 9223372036854775808 ∧ ((fkey c.toNat = c ∧ c ≤ 9218868437227405312) ∨ (fkey c.toNat = 9223372036854775808 ∧ c = 9221120237041090560))) := by
    intro c hc pc
    have hk := key c hc pc
    obtain ⟨c0, c1⟩ := hc
    obtain ⟨m, rfl⟩ := Int.eq_ofNat_of_zero_le c0
    simp only [Int.toNat_natCast] at *
    rcases hk with ⟨h1, h2⟩ | ⟨h1, h2, h3⟩
    · refine .inr ⟨by omega, .inr ⟨?_, h2⟩⟩
      unfold fkey; rw [if_pos h1]
    · have e1 : fneg m = decide (9223372036854775808 ≤ m) := by
        unfold fneg
        by_cases hm : 9223372036854775808 ≤ m
        · rw [decide_eq_true hm, show m / 9223372036854775808 = 1 by omega]; rfl
        · rw [decide_eq_false hm, show m / 9223372036854775808 = 0 by omega]; rfl
      unfold fkey
      rw [h1, e1]
      unfold sgn
      unfold frung at *
      simp only [Bool.false_eq_true, if_false, decide_eq_true_eq]
      split <;> omega
  rw [fcmp_key]
  have va := val a ha pa
  have vb := val b hb pb
  clear key val pa pb
  obtain ⟨a0, a1⟩ := ha
  obtain ⟨b0, b1⟩ := hb
  generalize fkey a.toNat = x at *
  generalize fkey b.toNat = y at *
  unfold icmp rkey
  repeat' split
  all_goals omega
def sgnB (a b : Bool) : Int := if a = true then -1 else if b = true then 1 else 0
theorem r1sign_any (a b : Bool) (w : World) : Calls Tryz.prog 118 #[.bool a, .bool b] w fun e w' => e = .returned (.int .i64 (sgnB a b)) ∧ w = w' := by
  cases a <;> cases b
  all_goals (go_enter Tryz.func118, Tryz.ntmps118; go_wp2_with fail; go_ret; exact ⟨rfl, rfl⟩)
theorem one_num (n : Int) : (n == bits BinOp.and .i64 n 1) = (n == 0 || n == 1) := by
  have h : bits BinOp.and .i64 n 1 = n % 2 := by
    show IntKind.i64.wrap ((BitVec.ofInt 64 n &&& BitVec.ofInt 64 1).toNat : Int) = _
    rw [BitVec.toNat_and, BitVec.toNat_ofInt, BitVec.toNat_ofInt, show ((1 : Int) % ((2 ^ 64 : Nat) : Int)).toNat = 1 by decide, Nat.and_one_is_mod, IntKind.wrap_i64]
    omega
  rw [h, Bool.eq_iff_iff, beq_iff_eq, Bool.or_eq_true, beq_iff_eq, beq_iff_eq]
  omega
theorem vsound_three (n f : Int) (t : ByteArray) : vsound ⟨3, n, f, t⟩ = (eqGV 3 n f t 3 0 f ⟨#[]⟩ && (vplain f == f)) := by
  unfold vsound eqGV
  simp only
  generalize vplain f = p
  rw [Bool.eq_iff_iff]
  simp
  constructor
  · rintro ⟨h1, h2, h3⟩; exact ⟨⟨h1, h3⟩, h2.symm⟩
  · rintro ⟨⟨h1, h3⟩, h2⟩; exact ⟨h1, h2.symm, h3⟩
theorem vsound_one (n f : Int) (t : ByteArray) : vsound ⟨1, n, f, t⟩ = (eqGV 1 n f t 1 n 0 ⟨#[]⟩ && (n == 0 || n == 1)) := by
  unfold vsound eqGV
  simp only [one_num]
  rw [Bool.eq_iff_iff]
  simp
  constructor <;> (intro h; simp_all)
theorem r1Sound_any (x : GV) (w : World) (hx : x.Ok) :
    Calls Tryz.prog 79 #[.agg #[.int .i64 x.k, .int .i64 x.n, .int .u64 x.f, .string x.t]] w fun e w' => e = .returned (.bool (vsound x)) ∧ Ext w w' := by
  obtain ⟨k, n, f, t⟩ := x
  obtain ⟨⟨a1, a2⟩, ⟨b1, b2⟩, hf, d⟩ := hx
  simp only at *
  by_cases hk : k = 3
  · subst hk
    have s1 := fun W => r1Plain_any f hf W
    rw [vsound_three]
    clear hf
    generalize vplain f = p at *
    cases hq : eqGV 3 n f t 3 0 f ⟨#[]⟩
    · go_enter Tryz.func79, Tryz.ntmps79
      go_wp2_with fail
      go_quiet (fail)
      go_wp2
      go_ret
      exact ⟨rfl, (by repeat (first | (with_reducible exact Ext.refl _) | (with_reducible assumption) | (with_reducible apply Ext.alloc) | (with_reducible apply Ext.drewN) | (with_reducible apply Ext.drew) | (with_reducible apply Ext.grow) | (with_reducible refine Ext.trans ?_ (by with_reducible assumption))))⟩
    · go_enter Tryz.func79, Tryz.ntmps79
      go_wp2_with fail
      go_quiet ((go_at_call 109; exact quiet_same (s1 _)))
      go_wp2
      go_ret
      exact ⟨ret_bool (by simp), (by repeat (first | (with_reducible exact Ext.refl _) | (with_reducible assumption) | (with_reducible apply Ext.alloc) | (with_reducible apply Ext.drewN) | (with_reducible apply Ext.drew) | (with_reducible apply Ext.grow) | (with_reducible refine Ext.trans ?_ (by with_reducible assumption))))⟩
  · by_cases hk : k = 1
    · subst hk
      rw [vsound_one]
      clear hf
      go_enter Tryz.func79, Tryz.ntmps79
      go_wp2_with fail
      all_goals (go_ret; exact ⟨ret_bool (by first | (simp [*]; done) | (simp_all; done)), (by repeat (first | (with_reducible exact Ext.refl _) | (with_reducible assumption) | (with_reducible apply Ext.alloc) | (with_reducible apply Ext.drewN) | (with_reducible apply Ext.drew) | (with_reducible apply Ext.grow) | (with_reducible refine Ext.trans ?_ (by with_reducible assumption))))⟩)
    · by_cases hk : k = 4
      · subst hk
        go_enter Tryz.func79, Tryz.ntmps79
        go_wp2_with fail
        all_goals (go_ret; exact ⟨ret_bool (by simp [vsound, *]), (by repeat (first | (with_reducible exact Ext.refl _) | (with_reducible assumption) | (with_reducible apply Ext.alloc) | (with_reducible apply Ext.drewN) | (with_reducible apply Ext.drew) | (with_reducible apply Ext.grow) | (with_reducible refine Ext.trans ?_ (by with_reducible assumption))))⟩)
      have k3 : (k == 3) = false := by simpa using ‹¬ k = 3›
      have k4 : (k == 4) = false := by simpa using hk
      have k1 : (k == 1) = false := by simpa using ‹¬ k = 1›
      go_enter Tryz.func79, Tryz.ntmps79
      go_wp2_with fail
      all_goals (go_ret; exact ⟨ret_bool (by simp [vsound, *]), (by repeat (first | (with_reducible exact Ext.refl _) | (with_reducible assumption) | (with_reducible apply Ext.alloc) | (with_reducible apply Ext.drewN) | (with_reducible apply Ext.drew) | (with_reducible apply Ext.grow) | (with_reducible refine Ext.trans ?_ (by with_reducible assumption))))⟩)
theorem sign_icmp (x y : Int) : sgnB (decide (x < y)) (decide (y < x)) = icmp x y := by unfold icmp sgnB; simp
theorem bytes_cmp : ∀ x y : List UInt8, Lib.compareBytes x y = if Op.bytesLess x y = true then -1 else if x = y then 0 else 1
  | [], [] => by simp [Op.bytesLess, Lib.compareBytes]
  | _ :: _, [] => by simp [Op.bytesLess, Lib.compareBytes]
  | [], _ :: _ => by simp [Op.bytesLess, Lib.compareBytes]
  | a :: x, b :: y => by
    rw [Lib.compareBytes, Op.bytesLess, bytes_cmp x y]
    by_cases h1 : a < b
    · simp [h1]
    · by_cases h2 : b < a
      · have h3 : a ≠ b := by rintro rfl; exact h1 h2
        simp [h1, h2, h3]
      · have h3 : a = b := UInt8.le_antisymm (UInt8.not_lt.1 h2) (UInt8.not_lt.1 h1)
        subst h3
        simp
theorem scmp_less (a b : ByteArray) : scmp a b = if Op.bytesLess a.toList b.toList = true then -1 else if a.toList = b.toList then 0 else 1 := by
  unfold scmp
  rw [bytes_cmp, ByteArray.toList_eq, ByteArray.toList_eq]
set_option maxRecDepth 100000 in
set_option maxHeartbeats 1000000 in
theorem r1Compare_any (x y : GV) (w : World) (hx : x.Ok) (hy : y.Ok) :
    Calls Tryz.prog 97 #[.agg #[.int .i64 x.k, .int .i64 x.n, .int .u64 x.f, .string x.t], .agg #[.int .i64 y.k, .int .i64 y.n, .int .u64 y.f, .string y.t]] w fun e w' => e = .returned (.int .i64 (vcmp x y)) ∧ Ext w w' := by
  have mixed := mixed
  have s1 := fun W => r1Sound_any x W hx
  have s2 := fun W => r1Sound_any y W hy
  have pl : vsound x = true → vplain x.f = x.f := fun h => (vsound_parts h).1
  have pl2 : vsound y = true → vplain y.f = y.f := fun h => (vsound_parts h).1
  obtain ⟨k, n, f, t⟩ := x
  obtain ⟨k', n', f', t'⟩ := y
  simp only at *
  cases h1 : vsound ⟨k, n, f, t⟩
  · rw [h1] at s1
    have hv : vcmp ⟨k, n, f, t⟩ ⟨k', n', f', t'⟩ = 0 := by unfold vcmp; rw [if_pos (.inl h1)]
    rw [hv]
    clear hv h1 s2 hx hy pl pl2
    go_enter Tryz.func97, Tryz.ntmps97
    go_wp2_with (go_at_call 79; refine (s1 _).mono ?_; rintro e w1 ⟨rfl, hE⟩)
    go_ret
    exact ⟨rfl, (by repeat (first | (with_reducible exact Ext.refl _) | (with_reducible assumption) | (with_reducible apply Ext.alloc) | (with_reducible apply Ext.drewN) | (with_reducible apply Ext.drew) | (with_reducible apply Ext.grow) | (with_reducible refine Ext.trans ?_ (by with_reducible assumption))))⟩
  cases h2 : vsound ⟨k', n', f', t'⟩
  · rw [h1] at s1; rw [h2] at s2
    have hv : vcmp ⟨k, n, f, t⟩ ⟨k', n', f', t'⟩ = 0 := by unfold vcmp; rw [if_pos (.inr h2)]
    rw [hv]
    clear hv h1 h2 hx hy pl pl2
    go_enter Tryz.func97, Tryz.ntmps97
    go_wp2_with fail
    refine (s1 _).mono ?_
    rintro e w1 ⟨rfl, hE⟩
    have V1 := ((ValAt.new w w.heap.size _ _ _ _ _ rfl).ext (Ext.alloc (Ext.refl _) _)).ext hE; have V2 := (ValAt.new _ (w.heap.size + 1) _ _ _ _ _ (by simp)).ext hE; obtain ⟨a10, a11, a12, a13⟩ := V1; obtain ⟨a20, a21, a22, a23⟩ := V2
    go_wp2_with fail
    refine (s2 _).mono ?_
    rintro e w2 ⟨rfl, hE2⟩
    go_wp2_with fail
    go_ret
    exact ⟨rfl, (by repeat (first | (with_reducible exact Ext.refl _) | (with_reducible assumption) | (with_reducible apply Ext.alloc) | (with_reducible apply Ext.drewN) | (with_reducible apply Ext.drew) | (with_reducible apply Ext.grow) | (with_reducible refine Ext.trans ?_ (by with_reducible assumption))))⟩
  have hf := hx.f
  have hf' := hy.f
  have hpf := pl h1
  have hpf' := pl2 h2
  simp only at hf hf'
  rw [h1] at s1; rw [h2] at s2
  have hv : vcmp ⟨k, n, f, t⟩ ⟨k', n', f', t'⟩ = if k ≠ k' then icmp k k' else if k = 3 then icmp (rkey f) (rkey f') else if k = 4 then scmp t t' else icmp n n' := by
    unfold vcmp; rw [if_neg (by rw [h1, h2]; simp), rkey_cmp hf hf' hpf hpf']
  have q1 : ∀ z, (z = f ∨ z = f') → ∀ W, Calls Tryz.prog 119 #[.int .u64 z] W fun e w' => e = .returned (.int .u64 (rkey z)) ∧ W = w' := fun z hz W => r1key_any z (by rcases hz with rfl | rfl <;> assumption) W
  rw [hv]
  clear hv h1 h2 hx hy hf hf' hpf hpf' pl pl2
  by_cases hk : k = k'
  · subst hk
    rw [if_neg (by simp)]
    by_cases k3 : k = 3
    · subst k3
      rw [if_pos rfl]
      go_enter Tryz.func97, Tryz.ntmps97
      go_wp2_with fail
      refine (s1 _).mono ?_
      rintro e w1 ⟨rfl, hE⟩
      have V1 := ((ValAt.new w w.heap.size _ _ _ _ _ rfl).ext (Ext.alloc (Ext.refl _) _)).ext hE; have V2 := (ValAt.new _ (w.heap.size + 1) _ _ _ _ _ (by simp)).ext hE; obtain ⟨a10, a11, a12, a13⟩ := V1; obtain ⟨a20, a21, a22, a23⟩ := V2
      go_wp2_with fail
      refine (s2 _).mono ?_
      rintro e w2 ⟨rfl, hE2⟩
      have V1 := ValAt.ext ⟨a10, a11, a12, a13⟩ hE2; have V2 := ValAt.ext ⟨a20, a21, a22, a23⟩ hE2; clear a10 a11 a12 a13 a20 a21 a22 a23; obtain ⟨a10, a11, a12, a13⟩ := V1; obtain ⟨a20, a21, a22, a23⟩ := V2
      go_wp2_with fail
      go_big_quiet (first | (go_at_call 119; exact quiet_same (q1 _ (by first | exact .inl rfl | exact .inr rfl) _)) | (go_at_call 118; exact quiet_same (r1sign_any _ _ _)))
      go_wp2_with fail
      all_goals (go_ret; exact ⟨ret_int (sign_icmp _ _), (by repeat (first | (with_reducible exact Ext.refl _) | (with_reducible assumption) | (with_reducible apply Ext.alloc) | (with_reducible apply Ext.drewN) | (with_reducible apply Ext.drew) | (with_reducible apply Ext.grow) | (with_reducible refine Ext.trans ?_ (by with_reducible assumption))))⟩)
    · rw [if_neg k3]
      have k3b : (k == 3) = false := by simpa using k3
      by_cases k4 : k = 4
      · subst k4
        rw [if_pos rfl]
        go_enter Tryz.func97, Tryz.ntmps97
        go_wp2_with fail
        refine (s1 _).mono ?_
        rintro e w1 ⟨rfl, hE⟩
        have V1 := ((ValAt.new w w.heap.size _ _ _ _ _ rfl).ext (Ext.alloc (Ext.refl _) _)).ext hE; have V2 := (ValAt.new _ (w.heap.size + 1) _ _ _ _ _ (by simp)).ext hE; obtain ⟨a10, a11, a12, a13⟩ := V1; obtain ⟨a20, a21, a22, a23⟩ := V2
        go_wp2_with fail
        refine (s2 _).mono ?_
        rintro e w2 ⟨rfl, hE2⟩
        have V1 := ValAt.ext ⟨a10, a11, a12, a13⟩ hE2; have V2 := ValAt.ext ⟨a20, a21, a22, a23⟩ hE2; clear a10 a11 a12 a13 a20 a21 a22 a23; obtain ⟨a10, a11, a12, a13⟩ := V1; obtain ⟨a20, a21, a22, a23⟩ := V2
        go_wp2_with (go_at_call 118; refine (r1sign_any _ _ _).mono ?_; rintro e w' ⟨rfl, rfl⟩)
        all_goals (go_ret; exact ⟨ret_int (by rw [scmp_less]; unfold sgnB; cases (Op.bytesLess t.toList t'.toList) <;> by_cases hh : t.toList = t'.toList <;> simp [hh]), (by repeat (first | (with_reducible exact Ext.refl _) | (with_reducible assumption) | (with_reducible apply Ext.alloc) | (with_reducible apply Ext.drewN) | (with_reducible apply Ext.drew) | (with_reducible apply Ext.grow) | (with_reducible refine Ext.trans ?_ (by with_reducible assumption))))⟩)
      · rw [if_neg k4]
        have k4b : (k == 4) = false := by simpa using k4
        go_enter Tryz.func97, Tryz.ntmps97
        go_wp2_with fail
        refine (s1 _).mono ?_
        rintro e w1 ⟨rfl, hE⟩
        have V1 := ((ValAt.new w w.heap.size _ _ _ _ _ rfl).ext (Ext.alloc (Ext.refl _) _)).ext hE; have V2 := (ValAt.new _ (w.heap.size + 1) _ _ _ _ _ (by simp)).ext hE; obtain ⟨a10, a11, a12, a13⟩ := V1; obtain ⟨a20, a21, a22, a23⟩ := V2
        go_wp2_with fail
        refine (s2 _).mono ?_
        rintro e w2 ⟨rfl, hE2⟩
        have V1 := ValAt.ext ⟨a10, a11, a12, a13⟩ hE2; have V2 := ValAt.ext ⟨a20, a21, a22, a23⟩ hE2; clear a10 a11 a12 a13 a20 a21 a22 a23; obtain ⟨a10, a11, a12, a13⟩ := V1; obtain ⟨a20, a21, a22, a23⟩ := V2
        go_wp2_with (go_at_call 118; refine (r1sign_any _ _ _).mono ?_; rintro e w' ⟨rfl, rfl⟩)
        all_goals (go_ret; exact ⟨ret_int (sign_icmp _ _), (by repeat (first | (with_reducible exact Ext.refl _) | (with_reducible assumption) | (with_reducible apply Ext.alloc) | (with_reducible apply Ext.drewN) | (with_reducible apply Ext.drew) | (with_reducible apply Ext.grow) | (with_reducible refine Ext.trans ?_ (by with_reducible assumption))))⟩)
  · rw [if_pos hk]
    have hkb : (k != k') = true := by simpa using hk
    go_enter Tryz.func97, Tryz.ntmps97
    go_wp2_with fail
    refine (s1 _).mono ?_
    rintro e w1 ⟨rfl, hE⟩
    have V1 := ((ValAt.new w w.heap.size _ _ _ _ _ rfl).ext (Ext.alloc (Ext.refl _) _)).ext hE; have V2 := (ValAt.new _ (w.heap.size + 1) _ _ _ _ _ (by simp)).ext hE; obtain ⟨a10, a11, a12, a13⟩ := V1; obtain ⟨a20, a21, a22, a23⟩ := V2
    go_wp2_with fail
    refine (s2 _).mono ?_
    rintro e w2 ⟨rfl, hE2⟩
    have V1 := ValAt.ext ⟨a10, a11, a12, a13⟩ hE2; have V2 := ValAt.ext ⟨a20, a21, a22, a23⟩ hE2; clear a10 a11 a12 a13 a20 a21 a22 a23; obtain ⟨a10, a11, a12, a13⟩ := V1; obtain ⟨a20, a21, a22, a23⟩ := V2
    go_wp2_with (go_at_call 118; refine (r1sign_any _ _ _).mono ?_; rintro e w' ⟨rfl, rfl⟩)
    all_goals (go_ret; exact ⟨ret_int (sign_icmp _ _), (by repeat (first | (with_reducible exact Ext.refl _) | (with_reducible assumption) | (with_reducible apply Ext.alloc) | (with_reducible apply Ext.drewN) | (with_reducible apply Ext.drew) | (with_reducible apply Ext.grow) | (with_reducible refine Ext.trans ?_ (by with_reducible assumption))))⟩)
end Go.Proofs.YtmpndmjfdijamaaGreatDoor
