/- The walk of row.Encode. -/
import Derived.Test.YtmpndmjfdijamaaGreatDoorEsc
set_option linter.unusedVariables false
set_option linter.unusedSimpArgs false
namespace Go.Proofs.YtmpndmjfdijamaaGreatDoor
open Go.RowKit Go.Sort
/-- A number with its highest bit turned, as the code has it. -/
def nflip (n : Int) : Int := bits BinOp.xor .u64 (IntKind.u64.wrap n) 9223372036854775808
def kbyte (k : Int) : UInt8 := k.toNat.toUInt8
def encV (x : GV) : List UInt8 :=
  kbyte x.k :: (if x.k = 1 ∨ x.k = 2 then wordL (nflip x.n) else if x.k = 3 then wordL (fturned x.f) else if x.k = 4 then esc x.t.data.toList ++ [0, 0] else [])
def encR : List GV → List UInt8
  | [] => []
  | x :: r => encV x ++ encR r
theorem encR_app (r s : List GV) : encR (r ++ s) = encR r ++ encR s := by
  induction r with
  | nil => rfl
  | cons x r ih => simp [encR, ih]
def encB (r : List GV) : ByteArray := if rsound r = true then ⟨(encR r).toArray⟩ else ⟨#[]⟩
def encE (r : List GV) : Int := if rsound r = true then 0 else 1
theorem wordL_length (n : Int) : (wordL n).length = 8 := rfl
theorem vsound_kind {x : GV} (h : vsound x = true) : x.k = 0 ∨ x.k = 1 ∨ x.k = 2 ∨ x.k = 3 ∨ (x.k = 4 ∧ x.t.size ≤ 4096) := by
  unfold vsound at h
  by_cases h0 : x.k = 0
  · exact .inl h0
  by_cases h1 : x.k = 1
  · exact .inr (.inl h1)
  by_cases h2 : x.k = 2
  · exact .inr (.inr (.inl h2))
  by_cases h3 : x.k = 3
  · exact .inr (.inr (.inr (.inl h3)))
  by_cases h4 : x.k = 4
  · simp only [beq_iff_eq, h4] at h
    simp at h
    exact .inr (.inr (.inr (.inr ⟨h4, by omega⟩)))
  · simp [h0, h1, h2, h3, h4] at h
theorem kbyte_int {k : Int} (h0 : 0 ≤ k) (h1 : k < 256) : ((kbyte k).toNat : Int) = k := by
  unfold kbyte
  obtain ⟨m, rfl⟩ := Int.eq_ofNat_of_zero_le h0
  simp only [Int.toNat_natCast, Nat.toUInt8_eq, UInt8.toNat_ofNat']
  omega
theorem encV_len {x : GV} (h : vsound x = true) : (encV x).length ≤ 8195 := by
  have hk := vsound_kind h
  unfold encV
  rcases hk with hk | hk | hk | hk | ⟨hk, ht⟩
  · rw [hk]; simp
  · rw [hk]; simp [wordL_length]
  · rw [hk]; simp [wordL_length]
  · rw [hk]; simp [wordL_length]
  · have := esc_len x.t.data.toList
    have hs : x.t.data.toList.length = x.t.size := by simp
    rw [hk]
    simp
    omega
theorem rsound_at {r : List GV} (h : rsound r = true) : r.length ≤ 1024 ∧ ∀ x ∈ r, vsound x = true := by
  unfold rsound at h
  simp only [Bool.and_eq_true, decide_eq_true_eq, Bool.not_eq_true', List.any_eq_false, Bool.not_eq_eq_eq_not, Bool.not_true, Bool.not_eq_false] at h
  exact h
theorem encR_len {r : List GV} (h : ∀ x ∈ r, vsound x = true) : (encR r).length ≤ r.length * 8195 := by
  induction r with
  | nil => simp [encR]
  | cons x r ih =>
    have h1 := encV_len (h x (List.mem_cons_self ..))
    have h2 := ih (fun y hy => h y (List.mem_cons_of_mem _ hy))
    simp only [encR, List.length_append, List.length_cons, Nat.succ_mul]
    omega
theorem u64_nat {z : Int} {n : Nat} (h : z = (n : Int)) (hn : n < 18446744073709551616) : 0 ≤ z ∧ z < 18446744073709551616 := by omega
theorem nflip_nat (n : Int) : nflip n = (((n % 18446744073709551616).toNat ^^^ 9223372036854775808 : Nat) : Int) := by
  unfold nflip
  rw [IntKind.wrap_u64, u64_xor _ _ (Int.emod_nonneg _ (by decide)) (Int.emod_lt_of_pos _ (by decide)) (by decide) (by decide)]
  rfl
theorem nflip_range (n : Int) : 0 ≤ nflip n ∧ nflip n < 18446744073709551616 := by
  refine u64_nat (nflip_nat n) (Nat.xor_lt_two_pow (n := 64) ?_ (by decide))
  have := Int.emod_nonneg n (b := 18446744073709551616) (by decide)
  have := Int.emod_lt_of_pos n (b := 18446744073709551616) (by decide)
  omega
theorem fturned_nat {f : Int} (h : u64 f) : fturned f = (((if f.toNat &&& 9223372036854775808 ≠ 0 then 18446744073709551615 ^^^ f.toNat else f.toNat ||| 9223372036854775808) : Nat) : Int) := by
  obtain ⟨h0, h1⟩ := h
  obtain ⟨m, rfl⟩ := Int.eq_ofNat_of_zero_le h0
  unfold fturned
  have hm : m < 18446744073709551616 := by omega
  rw [show (9223372036854775808 : Int) = ((9223372036854775808 : Nat) : Int) from rfl, show IntKind.u64.max = ((18446744073709551615 : Nat) : Int) from by decide, u64_and_nat m _ hm (by decide), u64_or_nat m _ hm (by decide), u64_xor_nat _ m (by decide) hm, Int.toNat_natCast]
  by_cases h : m &&& 9223372036854775808 = 0
  · rw [h]; simp
  · have : ((m &&& 9223372036854775808 : Nat) : Int) ≠ 0 := by omega
    simp [h, this]
theorem fturned_range {f : Int} (h : u64 f) : 0 ≤ fturned f ∧ fturned f < 18446744073709551616 := by
  refine u64_nat (fturned_nat h) ?_
  have hm : f.toNat < 2 ^ 64 := by have := h.1; have := h.2; omega
  split
  · exact Nat.xor_lt_two_pow (n := 64) (by decide) hm
  · exact Nat.or_lt_two_pow (n := 64) hm (by decide)
theorem Kept.at {b : Nat} {w w' : World} (h : Kept b w w') {c : Nat} {cells : Array Value} {t : TypeId} {fz : Nat × Nat} (hc : w.heap[c]? = some (.cells cells t fz)) (hne : c ≠ b) (ht : t ≠ 5) : w'.heap[c]? = some (.cells cells t fz) :=
  h c _ hc (fun e => hne (Option.some.inj e)) (fun c' fz' e => ht (by injection e))
theorem writeByteI (B b : Nat) (l : List UInt8) (c : Int) (cc : UInt8) (hc : (cc.toNat : Int) = c) (w : World) (h : BAt w B b l) (hlen : l.length < 4294967296) (hBw : B ≤ w.heap.size) :
    Calls Tryz.prog 68 #[.pointer (some ⟨b, 0, none⟩), .int .u8 c] w fun e w' => e = .returned .nilIface ∧ BAt w' B b (l ++ [cc]) ∧ Below B w w' ∧ Kept b w w' := hc ▸ writeByte_any B b l cc w h hlen hBw
/-- Within a round: the builder holds l, the value x lies in block c. -/
def EncSt (w : World) (b c : Nat) (x : GV) (W : World) (l : List UInt8) : Prop :=
  BAt W w.heap.size b l ∧ Below w.heap.size w W ∧ W.heap[c]? = some (.cells #[.int .i64 x.k, .int .i64 x.n, .int .u64 x.f, .string x.t] 55 (0, 0)) ∧ b < c
section
variable {w W : World} {b c : Nat} {x : GV} {l : List UInt8}
theorem EncSt.size (h : EncSt w b c x W l) : w.heap.size ≤ W.heap.size := h.2.1.size
theorem EncSt.go {W' : World} {l' : List UInt8} (h : EncSt w b c x W l) (h1 : BAt W' w.heap.size b l') (h2 : Below w.heap.size W W') (h3 : Kept b W W') : EncSt w b c x W' l' :=
  ⟨h1, h.2.1.trans h2, h3.at h.2.2.1 (fun e => by have := h.2.2.2; omega) (by decide), h.2.2.2⟩
theorem EncSt.ext {W' : World} (h : EncSt w b c x W l) (hb : Below W.heap.size W W') : EncSt w b c x W' l :=
  ⟨h.1.below hb, h.2.1.trans (hb.mono h.2.1.size), (hb.block c (Array.getElem?_eq_some_iff.1 h.2.2.1).1).trans h.2.2.1, h.2.2.2⟩
theorem EncSt.lt (h : EncSt w b c x W l) : b < W.heap.size := Nat.lt_trans h.2.2.2 (Array.getElem?_eq_some_iff.1 h.2.2.1).1
theorem EncSt.byte (h : EncSt w b c x W l) (v : Int) (cc : UInt8) (hc : (cc.toNat : Int) = v) (hlen : l.length < 4294967296) :
    Calls Tryz.prog 68 #[.pointer (some ⟨b, 0, none⟩), .int .u8 v] W fun e W' => e = .returned .nilIface ∧ EncSt w b c x W' (l ++ [cc]) :=
  (writeByteI w.heap.size b l v cc hc W h.1 hlen h.size).mono fun e W' ⟨he, h1, h2, h3⟩ => ⟨he, h.go h1 h2 h3⟩
theorem EncSt.write (h : EncSt w b c x W l) (v : Value) (m : List UInt8) (hm : RdB W (fun k _ => k ≠ b) v m) (hlen : l.length + m.length ≤ 4294967296) :
    Calls Tryz.prog 69 #[.pointer (some ⟨b, 0, none⟩), v] W fun e W' => ∃ n, e = .returned (.tuple #[.int .i64 n, .nilIface]) ∧ EncSt w b c x W' (l ++ m) :=
  (write_any w.heap.size b l m v W h.1 hm hlen h.size).mono fun e W' ⟨n, he, h1, h2, h3⟩ => ⟨n, he, h.go h1 h2 h3⟩
theorem EncSt.str (h : EncSt w b c x W l) (s : ByteArray) (m : List UInt8) (hm : s.data.toList = m) (hlen : l.length + m.length ≤ 4294967296) :
    Calls Tryz.prog 72 #[.pointer (some ⟨b, 0, none⟩), .string s] W fun e W' => e = .returned (.tuple #[.int .i64 s.size, .nilIface]) ∧ EncSt w b c x W' (l ++ m) := by
  subst hm
  exact (writeString_any w.heap.size b l s W h.1 (by rw [Array.length_toList] at hlen; exact hlen) h.size).mono fun e W' ⟨he, h1, h2, h3⟩ => ⟨he, h.go h1 h2 h3⟩
theorem EncSt.word (h : EncSt w b c x W l) (n : Int) (hn : 0 ≤ n ∧ n < 18446744073709551616) :
    Calls Tryz.prog 70 #[.int .u64 n] W fun e W' => ∃ A d, e = .returned (.slice A (wordL n).length d) ∧ RdB W' (fun k _ => k ≠ b) (.slice A (wordL n).length d) (wordL n) ∧ EncSt w b c x W' l :=
  (word_any n W hn).mono fun e W' ⟨v, he, h1, h2⟩ => by
    obtain ⟨A, d, rfl, _⟩ := h1.shape
    exact ⟨A, d, he, RdL.move h1 (fun _ _ h => h) (Stays.mono fun k _ hk e => by have := h.lt; omega), h.ext h2⟩
theorem EncSt.repl (h : EncSt w b c x W l) (hw : GW w) (t : ByteArray) (ht : t.size ≤ 4096) :
    Calls Tryz.prog 73 #[.string t, .string ⟨#[0]⟩, .string ⟨#[0, 255]⟩] W fun e W' => e = .returned (.string ⟨(esc t.data.toList).toArray⟩) ∧ EncSt w b c x W' l := by
  have hc := Lib.countB_mul_le ⟨#[0]⟩ (by decide) t.size t (Nat.le_refl _)
  have h1 : ByteArray.size ⟨#[0]⟩ = 1 := rfl
  have h2 : ByteArray.size ⟨#[0, 255]⟩ = 2 := rfl
  rw [h1] at hc
  refine (replaceAll_any t ⟨#[0]⟩ ⟨#[0, 255]⟩ W (hw.below h.2.1) (by omega) (by decide) (by rw [h2]; omega)).mono fun e W' ⟨he, hb⟩ => ⟨?_, h.ext hb⟩
  rw [he, replaceAll_esc]
theorem EncSt.cells (h : EncSt w b c x W l) : W.cell? ⟨c, 0, none⟩ = some (.int .i64 x.k) ∧ W.cell? ⟨c, 1, none⟩ = some (.int .i64 x.n) ∧ W.cell? ⟨c, 2, none⟩ = some (.int .u64 x.f) ∧ W.cell? ⟨c, 3, none⟩ = some (.string x.t) := by
  refine ⟨?_, ?_, ?_, ?_⟩ <;> rw [Lib.cell_of_heap h.2.2.1] <;> rfl
end
theorem EncSt.new {w wr : World} {b : Nat} {l : List UInt8} (x : GV) (h : BAt wr w.heap.size b l) (hb : Below w.heap.size w wr) (hlt : b < wr.heap.size) :
    EncSt w b wr.heap.size x (wr.alloc (.cells #[.int .i64 x.k, .int .i64 x.n, .int .u64 x.f, .string x.t] 55)) l :=
  ⟨h.below ((Below.refl _ _).alloc (Nat.le_refl _) _), hb.alloc hb.size _, heap_alloc_new _ _, hlt⟩
theorem encR_step {r : List GV} {k : Nat} {x : GV} (h : r[k]? = some x) : encR (r.take (k + 1)) = encR (r.take k) ++ encV x := by
  rw [List.take_add_one, h, Option.toList_some, encR_app]
  simp [encR]
theorem encode_any (r : List GV) (v : Value) (w : World) (hr : RdV w AnyB v r) (hw : GW w) :
    Calls Tryz.prog 44 #[v] w fun e w' => e = .returned (.tuple #[.string (encB r), .int .i64 (encE r)]) ∧ Below w.heap.size w w' := by
  obtain ⟨A, c, rfl, hrc⟩ := hr.shape
  have f1 := rSound_any _ r w hr
  have HR := As.mk hr
  have HW := As.mk hw
  have HB : As (encB r = if rsound r = true then ⟨(encR r).toArray⟩ else ⟨#[]⟩) := ⟨rfl⟩
  have HE : As (encE r = if rsound r = true then 0 else 1) := ⟨rfl⟩
  have HS : As (rsound r = true → r.length ≤ 1024 ∧ ∀ x ∈ r, vsound x = true) := ⟨rsound_at⟩
  generalize encB r = bb at *
  generalize encE r = ee at *
  generalize rsound r = q at *
  clear hr hw
  cases q
  · rw [if_neg Bool.false_ne_true] at HB HE
    obtain rfl := HB.out
    obtain rfl := HE.out
    go_enter Tryz.func44, Tryz.ntmps44
    go_wp2_with (go_at_call 41; refine f1.mono ?_; rintro e w1 ⟨rfl, hE⟩)
    go_ret2
    exact ⟨rfl, hE.below⟩
  · rw [if_pos rfl] at HB HE
    replace HS := As.mk (HS.out rfl)
    obtain rfl := HE.out
    go_enter Tryz.func44, Tryz.ntmps44
    go_wp2_with (go_at_call 41; refine f1.mono ?_; rintro e w1 ⟨rfl, hE⟩)
    have H1 : As (Below w.heap.size w (w1.alloc (.cells #[.pointer none, .slice none 0 0] 105)) ∧ BAt (w1.alloc (.cells #[.pointer none, .slice none 0 0] 105)) w.heap.size w1.heap.size []) := ⟨hE.below.alloc hE.size _, BAt.new w1 w.heap.size hE.size⟩
    have hbB := hE.size
    have hbs : w1.heap.size < (w1.alloc (.cells #[.pointer none, .slice none 0 0] 105)).heap.size := by simp
    generalize w1.heap.size = b at *
    generalize w1.alloc (.cells #[.pointer none, .slice none 0 0] 105) = w2 at *
    clear hE f1 w1
    go_loopg [12] r.length (fun g s12 wr => ∃ (k : Nat), k ≤ r.length ∧ r.length - k ≤ g ∧ s12 = .int .i64 k ∧ b < wr.heap.size ∧ As (Below w.heap.size w wr ∧ BAt wr w.heap.size b (encR (r.take k))))
    case atStart => exact ⟨0, by omega, by omega, by go_num, hbs, ⟨H1.out.1, by simpa [encR] using H1.out.2⟩⟩
    case round =>
      obtain ⟨k, hk, hg, rfl, hbs, HI⟩ := hrel
      by_cases hlt : k < r.length
      · have hltz : (k : Int) < (r.length : Int) := by omega
        obtain ⟨x, hx⟩ : ∃ x, r[k]? = some x := ⟨_, List.getElem?_eq_getElem hlt⟩
        obtain ⟨b0, o, c', hv, hb0, hxo, e0, e1, e2, e3⟩ := RdV.val (HR.out.ext HI.out.1) hx
        injection hv with hA _ hcc
        subst hA
        have HX := As.mk hx
        have HXO := As.mk hxo
        clear hx hcc hxo
        have hrl := HS.out.1
        have hkd := vsound_kind (HS.out.2 x (List.mem_of_getElem? HX.out))
        have S0 := As.mk (EncSt.new x HI.out.2 HI.out.1 hbs)
        have hL : (encR (r.take k)).length ≤ 8391680 := by
          have := encR_len (r := r.take k) fun y hy => HS.out.2 y (List.mem_of_mem_take hy)
          have h2 := HS.out.1
          rw [List.length_take] at this
          omega
        obtain ⟨xk, xn, xf, xt⟩ := x
        have hfr := fturned_range HXO.out.f
        simp only at *
        rcases hkd with rfl | rfl | rfl | rfl | ⟨rfl, hts⟩
        · have HKB : As (((kbyte 0).toNat : Int) = 0) := ⟨rfl⟩
          go_wp2_with (first | (go_at_call 68; refine (S0.out.byte _ _ HKB.out (by omega)).mono ?_; rintro e w3 ⟨rfl, hS⟩; have S1 := As.mk hS; clear hS; obtain ⟨q0, q1, q2, q3⟩ := S1.out.cells) | fail)
          go_roundg (r.length - (k + 1))
          case measure => omega
          case rel => exact ⟨k + 1, by omega, by omega, by go_num, S1.out.lt, ⟨S1.out.2.1, by rw [encR_step HX.out]; simpa [encV, kbyte] using S1.out.1⟩⟩
        · have HKB : As (((kbyte 1).toNat : Int) = 1) := ⟨rfl⟩
          go_wp2_with (first | (go_at_call 68; refine (S0.out.byte _ _ HKB.out (by omega)).mono ?_; rintro e w3 ⟨rfl, hS⟩; have S1 := As.mk hS; clear hS; obtain ⟨q0, q1, q2, q3⟩ := S1.out.cells) | (go_at_call 70; refine (S1.out.word _ (nflip_range xn)).mono ?_; rintro e w4 ⟨A4, c4, rfl, hr4, hS⟩; have S2 := As.mk hS; have R4 := As.mk hr4; clear hS hr4) | (go_at_call 69; refine (S2.out.write _ _ R4.out (by simp [wordL_length]; omega)).mono ?_; rintro e w5 ⟨n5, rfl, hS⟩; have S3 := As.mk hS; clear hS))
          go_roundg (r.length - (k + 1))
          case measure => omega
          case rel => exact ⟨k + 1, by omega, by omega, by go_num, S3.out.lt, ⟨S3.out.2.1, by rw [encR_step HX.out]; simpa [encV, nflip] using S3.out.1⟩⟩
        · have HKB : As (((kbyte 2).toNat : Int) = 2) := ⟨rfl⟩
          go_wp2_with (first | (go_at_call 68; refine (S0.out.byte _ _ HKB.out (by omega)).mono ?_; rintro e w3 ⟨rfl, hS⟩; have S1 := As.mk hS; clear hS; obtain ⟨q0, q1, q2, q3⟩ := S1.out.cells) | (go_at_call 70; refine (S1.out.word _ (nflip_range xn)).mono ?_; rintro e w4 ⟨A4, c4, rfl, hr4, hS⟩; have S2 := As.mk hS; have R4 := As.mk hr4; clear hS hr4) | (go_at_call 69; refine (S2.out.write _ _ R4.out (by simp [wordL_length]; omega)).mono ?_; rintro e w5 ⟨n5, rfl, hS⟩; have S3 := As.mk hS; clear hS))
          go_roundg (r.length - (k + 1))
          case measure => omega
          case rel => exact ⟨k + 1, by omega, by omega, by go_num, S3.out.lt, ⟨S3.out.2.1, by rw [encR_step HX.out]; simpa [encV, nflip] using S3.out.1⟩⟩
        · have HKB : As (((kbyte 3).toNat : Int) = 3) := ⟨rfl⟩
          go_wp2_with (first | (go_at_call 68; refine (S0.out.byte _ _ HKB.out (by omega)).mono ?_; rintro e w3 ⟨rfl, hS⟩; have S1 := As.mk hS; clear hS; obtain ⟨q0, q1, q2, q3⟩ := S1.out.cells) | (go_at_call 71; refine (turned_any xf _).mono ?_; rintro e w6 ⟨rfl, rfl⟩) | (go_at_call 70; refine (S1.out.word _ hfr).mono ?_; rintro e w4 ⟨A4, c4, rfl, hr4, hS⟩; have S2 := As.mk hS; have R4 := As.mk hr4; clear hS hr4) | (go_at_call 69; refine (S2.out.write _ _ R4.out (by simp [wordL_length]; omega)).mono ?_; rintro e w5 ⟨n5, rfl, hS⟩; have S3 := As.mk hS; clear hS))
          go_roundg (r.length - (k + 1))
          case measure => omega
          case rel => exact ⟨k + 1, by omega, by omega, by go_num, S3.out.lt, ⟨S3.out.2.1, by rw [encR_step HX.out]; simpa [encV, nflip] using S3.out.1⟩⟩
        · have HKB : As (((kbyte 4).toNat : Int) = 4) := ⟨rfl⟩
          have hel := esc_len xt.data.toList
          have hxs : xt.data.toList.length ≤ 4096 := by rw [Array.length_toList]; exact hts
          have hb1 : (encR (r.take k) ++ [kbyte 4]).length + (esc xt.data.toList).length ≤ 4294967296 := by simp; omega
          have hb2 : ((encR (r.take k) ++ [kbyte 4]) ++ esc xt.data.toList).length + [(0 : UInt8), 0].length ≤ 4294967296 := by simp; omega
          have HB1 := As.mk hb1; have HB2 := As.mk hb2; clear hb1 hb2
          go_wp2_with (first | (go_at_call 68; refine (S0.out.byte _ _ HKB.out (by omega)).mono ?_; rintro e w3 ⟨rfl, hS⟩; have S1 := As.mk hS; clear hS; obtain ⟨q0, q1, q2, q3⟩ := S1.out.cells) | (go_at_call 73; refine (S1.out.repl HW.out xt hts).mono ?_; rintro e w4 ⟨rfl, hS⟩; have S2 := As.mk hS; clear hS) | (go_at_call 72; refine (S2.out.str ⟨(esc xt.data.toList).toArray⟩ (esc xt.data.toList) rfl HB1.out).mono ?_; rintro e w5 ⟨rfl, hS⟩; have S3 := As.mk hS; clear hS S2) | (go_at_call 72; refine (S3.out.str ⟨#[0, 0]⟩ [0, 0] rfl HB2.out).mono ?_; rintro e w6 ⟨rfl, hS⟩; have S4 := As.mk hS; clear hS))
          go_roundg (r.length - (k + 1))
          case measure => omega
          case rel => exact ⟨k + 1, by omega, by omega, by go_num, S4.out.lt, ⟨S4.out.2.1, by rw [encR_step HX.out]; simpa [encV, nflip] using S4.out.1⟩⟩
      · have hltz : ¬ (k : Int) < (r.length : Int) := by omega
        obtain rfl : k = r.length := by omega
        have HP := As.mk (string_any w.heap.size b (encR r) wr (by have := HI.out.2; rwa [List.take_length] at this) HI.out.1.size)
        obtain rfl := HB.out
        go_wp2_with (go_at_call 74; refine HP.out.mono ?_; rintro e w3 ⟨rfl, hB3⟩)
        go_ret2
        exact ⟨rfl, HI.out.1.trans hB3⟩
end Go.Proofs.YtmpndmjfdijamaaGreatDoor
