/- The reference's numbers as texts. The reference's plans: the small walks. The reference's texts of a plan's operators: the first letter. -/
import Derived.Test.YtflckpfpgpfjlaaGreatDoorMBase
import Derived.Laws.IdiomStrings
import Derived.Test.YtflckpfpgpfjlaaGreatDoorMPx
import Derived.Test.YtflckpfpgpfjlaaGreatDoorMRefV
import Derived.Test.YtflckpfpgpfjlaaGreatDoorMOpn
set_option linter.unusedVariables false
set_option linter.unusedSimpArgs false
section
namespace Go.Proofs.YtflckpfpgpfjlaaGreatDoor
open Go.RowKit Go.Sort
def E8 (x : UInt8) (cs : List Value) : Prop := cs = [.int .u8 x.toNat]
theorem info_u8q : (Tryz.prog.info? 5).map (fun i => (i.zero, i.size, i.bytes)) = some (some (.int .u8 0), 1, 1) := by kernel_rfl
theorem dig_byte {u : Int} (h : 0 ≤ u ∧ u ≤ 9) : IntKind.u8.wrap (IntKind.u64.wrap (48 + u)) = ((UInt8.ofNat (48 + u.toNat)).toNat : Int) := by
  obtain ⟨k, rfl⟩ := Int.eq_ofNat_of_zero_le h.1
  have hk : k ≤ 9 := by omega
  simp only [Int.toNat_natCast]
  match k, hk with
  | 0, _ => decide
  | 1, _ => decide
  | 2, _ => decide
  | 3, _ => decide
  | 4, _ => decide
  | 5, _ => decide
  | 6, _ => decide
  | 7, _ => decide
  | 8, _ => decide
  | 9, _ => decide
def Digs (n u : Int) (bs : List UInt8) : Prop := 0 ≤ u ∧ u.toNat * 10 ^ bs.length ≤ 18446744073709551615 ∧ (u = 0 → bs = []) ∧ ∀ d : Nat, n = d → d ≤ 9 → u = d ∧ bs = []
theorem Digs.len {n u : Int} {bs : List UInt8} (h : Digs n u bs) : bs.length ≤ 20 := by
  by_cases h0 : u = 0
  · rw [h.2.2.1 h0]; simp
  · have h1 := h.2.1
    have h2 := h.1
    have h3 : 1 * 10 ^ bs.length ≤ u.toNat * 10 ^ bs.length := Nat.mul_le_mul_right _ (by omega)
    rcases Nat.lt_or_ge bs.length 21 with h4 | h4
    · omega
    · have h5 : 10 ^ 21 ≤ 10 ^ bs.length := Nat.pow_le_pow_right (by decide) h4
      omega
theorem Digs.next {n u : Int} {bs : List UInt8} (h : Digs n u bs) (hu : 10 ≤ u) (x : UInt8) : Digs n (u / 10) (bs ++ [x]) := by
  obtain ⟨h1, h2, h3, h4⟩ := h
  refine ⟨by omega, ?_, fun h0 => by omega, fun d e hd => by have := (h4 d e hd).1; omega⟩
  rw [List.length_append, List.length_singleton, Nat.pow_succ, show (u / 10).toNat = u.toNat / 10 by omega]
  have h5 : u.toNat / 10 * 10 ≤ u.toNat := Nat.div_mul_le_self _ _
  have h6 : u.toNat / 10 * 10 * 10 ^ bs.length ≤ u.toNat * 10 ^ bs.length := Nat.mul_le_mul_right _ h5
  rw [Nat.mul_comm (10 ^ bs.length) 10, ← Nat.mul_assoc]
  omega
theorem Digs.start {n u : Int} (h0 : 0 ≤ u) (h1 : u ≤ 18446744073709551615) (hn : 0 ≤ n → u = n) : Digs n u [] := ⟨h0, by simp; omega, fun _ => rfl, fun d e _ => ⟨by rw [hn (by omega), e], rfl⟩⟩
theorem Digs.big {n u : Int} {bs : List UInt8} (h : Digs n u bs) : u ≤ 18446744073709551615 := by
  have h1 := h.2.1
  have h2 := h.1
  have h3 : u.toNat * 1 ≤ u.toNat * 10 ^ bs.length := Nat.mul_le_mul_left _ (Nat.pos_of_ne_zero (by simp))
  omega
theorem tdiv10 {u : Int} (h : 0 ≤ u) (h2 : u ≤ 18446744073709551615) : IntKind.u64.wrap (u.tdiv 10) = u / 10 := by
  rw [Int.tdiv_eq_ediv_of_nonneg h, IntKind.wrap_u64]; omega
theorem e8_of {u : Int} (h : 0 ≤ u ∧ u ≤ 9) : E8 (UInt8.ofNat (48 + u.toNat)) [.int .u8 (48 + u)] := by
  have := dig_byte h
  unfold E8
  rw [← this, IntKind.wrap_u64, IntKind.wrap_u8]
  congr 2
  omega
theorem neg_u64 {n : Int} (h1 : -9223372036854775808 ≤ n) (h2 : n < 0) : IntKind.u64.wrap (-(IntKind.u64.wrap n)) = -n := by
  rw [IntKind.wrap_u64, IntKind.wrap_u64]; omega
theorem pos_u64 {n : Int} (h1 : 0 ≤ n) (h2 : n ≤ 9223372036854775807) : IntKind.u64.wrap n = n := by
  rw [IntKind.wrap_u64]; omega
theorem own8_addr {w : World} {base : Nat} {A : Option Addr} {n c : Nat} {xs : List UInt8} (h : OwnL 1 E8 5 w base (.slice A n c) xs) (hn : 0 < xs.length) : ∃ g, A = some ⟨g, 0, none⟩ := by
  obtain ⟨cs, ho, hr, h1, hl⟩ := h
  rcases ho.2 with ⟨hv, h0⟩ | ⟨g, cap, cur, hv, _⟩
  · omega
  · injection hv with hA
    exact ⟨g, hA⟩
theorem own8_cells {w : World} {base : Nat} {A : Option Addr} {n c : Nat} {xs : List UInt8} (h : OwnL 1 E8 5 w base (.slice A n c) xs) (g : Nat) (hA : A = some ⟨g, 0, none⟩) (j : Nat) (x : UInt8) (hx : xs[j]? = some x) : w.cell? ⟨g, j, none⟩ = some (.int .u8 x.toNat) := by
  obtain ⟨b, o, c', hv, _, cs, _, he, _, hc⟩ := (h.rd (ok := AnyB) fun _ _ => trivial).at hx
  injection hv with h1 _ _
  rw [hA] at h1
  injection h1 with h1
  injection h1 with h1 h2 _
  subst h1 h2
  unfold E8 at he
  subst he
  simpa using hc 0 _ rfl
theorem conv8 {P : Program} {w : World} {g j c : Nat} {x : UInt8} {src dst e : TypeId} (hc : w.cell? ⟨g, j, none⟩ = some (.int .u8 x.toNat)) (hs : P.underlying src = some (.slice e)) (he : P.underlying e = some (.int .u8)) (hd : P.underlying dst = some .string) :
    (convert src dst (.slice (some ⟨g, j, none⟩) 1 c)).run P w = .ok (.string ⟨#[x]⟩) w := by
  have := run_convert_bytes_back (P := P) w src dst e ⟨g, j, none⟩ c [x] hs he hd (fun i hi => by
    have : i = 0 := by simpa using hi
    subst this
    simpa [Addr.add] using hc)
  simpa using this
theorem drop_rev {q : List UInt8} {j : Nat} {x : UInt8} (hx : q[j]? = some x) : (q.drop j).reverse = (q.drop (j + 1)).reverse ++ [x] := by
  rw [List.drop_eq_getElem_cons (List.getElem?_eq_some_iff.1 hx).1, List.reverse_cons, (List.getElem?_eq_some_iff.1 hx).2]
set_option maxHeartbeats 2000000 in
set_option maxRecDepth 100000 in
theorem r1digits_any (n : Int) (w : World) (hn : i64 n) : Calls Tryz.prog 262 #[.int .i64 n] w fun e w' => (∃ s : ByteArray, e = .returned (.string s) ∧ (∀ d : Nat, n = d → d ≤ 9 → s = ⟨#[UInt8.ofNat (48 + d)]⟩) ∧ s.size ≤ 22) ∧ Below w.heap.size w w' := by
  have mixed := mixed
  obtain ⟨n1, n2⟩ := hn
  have HO0 := As.mk (OwnL.made 1 E8 5 w w.heap.size #[] 0 (Nat.le_refl _) (by decide) rfl)
  have HB0 : As (Below w.heap.size w (w.alloc (.cells #[] 5))) := ⟨(Ext.alloc (Ext.refl _) _).below⟩
  rcases (show n < 0 ∨ 0 ≤ n by omega) with hneg | hneg
  · have hu := neg_u64 n1 hneg
    have HD0 := As.mk (Digs.start (n := n) (u := -n) (by omega) (by omega) (fun h => by omega))
    go_enter Tryz.func262, Tryz.ntmps262
    go_wp2_with fail
    try rw [hu]
    go_loopg [3, 4] (-n).toNat (fun g s3 s4 wr => ∃ (u : Int) (bs : List UInt8), u.toNat ≤ g ∧ s3 = .int .u64 u ∧ As (OwnL 1 E8 5 wr w.heap.size s4 bs) ∧ As (Below w.heap.size w wr) ∧ As (Digs n u bs))
    case atStart => exact ⟨-n, [], by omega, rfl, HO0, HB0, HD0⟩
    case round =>
      obtain ⟨u, bs, hg, rfl, HO, HB, HD⟩ := hrel
      have hl := HD.out.len
      have hu0 := HD.out.1
      have HLT : As (bs.length < 4294967296) := ⟨by omega⟩
      clear hl
      by_cases h10 : 10 ≤ u
      · have HBY := As.mk (e8_of (u := u % 10) (by omega))
        have HNX := As.mk (HD.out.next h10 (UInt8.ofNat (48 + (u % 10).toNat)))
        have htd := tdiv10 hu0 HD.out.big
        go_wp2_with (at_builtin; refine OwnL.append w.heap.size rfl (.tmp 16) (.tmp 21) 188 5 _ 1 1 rfl Tryz.underlying188 info_u8q rfl (by decide) (by decide) _ bs (UInt8.ofNat (48 + (u % 10).toNat)) [.int .u8 (48 + u % 10)] rfl rfl (E := E8) HBY.out rfl (by simp [Value.oneCell']) HO.out HB.out HB.out.size HLT.out rfl ?_; intro v1 w2 hown hb' hg' hat; have HO2 := As.mk hown; have HB2 := As.mk hb'; clear hown hb' hg' hat)
        go_roundg (u / 10).toNat
        case measure => omega
        case rel => exact ⟨u / 10, _, by omega, by first | rw [htd] | go_num, HO2, HB2, HNX⟩
      · have HBY := As.mk (e8_of (u := u) (by omega))
        have HSM := As.mk HD.out.2.2.2
        generalize wr = wo at *
        go_wp2_with (at_builtin; first | (refine OwnL.append w.heap.size rfl (.tmp 25) (.tmp 29) 188 5 _ 1 1 rfl Tryz.underlying188 info_u8q rfl (by decide) (by decide) _ bs (UInt8.ofNat (48 + u.toNat)) [.int .u8 (48 + u)] rfl rfl (E := E8) HBY.out rfl (by simp [Value.oneCell']) HO.out HB.out HB.out.size HLT.out rfl ?_; intro v1 w2 hown hb' hg' hat; have HO2 := As.mk hown; have HB2 := As.mk hb'; clear hown hb' hg' hat) | (refine OwnL.append w.heap.size rfl (.tmp 33) (.tmp 34) 188 5 _ 1 1 rfl Tryz.underlying188 info_u8q rfl (by decide) (by decide) _ (bs ++ [UInt8.ofNat (48 + u.toNat)]) (UInt8.ofNat 45) [.int .u8 45] rfl rfl (E := E8) (by rfl) rfl (by simp [Value.oneCell']) HO2.out HB2.out HB2.out.size (by simp; have := HLT.out; have := HD.out.len; omega) rfl ?_; intro v1' w3 hown hb' hg' hat; obtain ⟨q, hq⟩ : ∃ q, q = (bs ++ [UInt8.ofNat (48 + u.toNat)]) ++ [UInt8.ofNat 45] := ⟨_, rfl⟩; rw [← hq] at hown; obtain ⟨A4, c4, rfl, hc4⟩ := hown.shape; have HQ := As.mk hq; clear hq; have hql := hown.len; have HO3 := As.mk hown; have HB3 := As.mk hb'; clear hown hb' hg' hat))
        have HC := As.mk (own8_cells HO3.out)
        go_loopg [5, 6] q.length (fun g s5 s6 wr => ∃ (k : Nat), k ≤ q.length ∧ k ≤ g ∧ s6 = .int .i64 ((k : Int) - 1) ∧ s5 = .string ⟨(q.drop k).reverse.toArray⟩ ∧ w3 = wr)
        case atStart => exact ⟨q.length, by omega, by omega, by go_num, by simp, rfl⟩
        case round =>
          obtain ⟨k, hk, hg2, rfl, rfl, rfl⟩ := hrel
          by_cases hk0 : 0 < k
          · obtain ⟨g0, rfl⟩ := own8_addr HO3.out (by omega)
            obtain ⟨j, rfl⟩ : ∃ j, k = j + 1 := ⟨k - 1, by omega⟩
            obtain ⟨x, hx⟩ : ∃ x, q[j]? = some x := ⟨_, List.getElem?_eq_getElem (by omega)⟩
            have hcv := fun c => conv8 (P := Tryz.prog) (c := c) (HC.out g0 rfl j x hx) Tryz.underlying188 Tryz.underlying5 Tryz.underlying9
            have hji : ((j + 1 : Nat) : Int) - 1 = j := by omega
            have HDR := As.mk (drop_rev hx)
            rw [hji]
            go_wp2_with fail
            go_roundg j
            case measure => omega
            case rel => exact ⟨j, by omega, by omega, by go_num, by rw [HDR.out]; simp [ByteArray.append_eq] <;> rfl, rfl⟩
          · obtain rfl : k = 0 := by omega
            have HS9 : As (∀ d : Nat, n = d → d ≤ 9 → (⟨(q.drop 0).reverse.toArray⟩ : ByteArray) = ⟨#[UInt8.ofNat (48 + d)]⟩) := ⟨fun d hd _ => by omega⟩
            have HZ9 : As ((⟨q.reverse.toArray⟩ : ByteArray).size ≤ 22) := ⟨by show q.reverse.toArray.size ≤ 22; rw [HQ.out]; have := HD.out.len; simp; omega⟩
            rw [List.drop_zero] at *
            generalize (⟨q.reverse.toArray⟩ : ByteArray) = st at *
            go_wp2_with fail
            go_ret
            exact ⟨⟨_, rfl, HS9.out, HZ9.out⟩, HB3.out⟩
  · have hu := pos_u64 hneg n2
    have HD0 := As.mk (Digs.start (n := n) (u := n) (by omega) (by omega) (fun h => rfl))
    go_enter Tryz.func262, Tryz.ntmps262
    go_wp2_with fail
    try rw [hu]
    go_loopg [3, 4] (n).toNat (fun g s3 s4 wr => ∃ (u : Int) (bs : List UInt8), u.toNat ≤ g ∧ s3 = .int .u64 u ∧ As (OwnL 1 E8 5 wr w.heap.size s4 bs) ∧ As (Below w.heap.size w wr) ∧ As (Digs n u bs))
    case atStart => exact ⟨n, [], by omega, rfl, HO0, HB0, HD0⟩
    case round =>
      obtain ⟨u, bs, hg, rfl, HO, HB, HD⟩ := hrel
      have hl := HD.out.len
      have hu0 := HD.out.1
      have HLT : As (bs.length < 4294967296) := ⟨by omega⟩
      clear hl
      by_cases h10 : 10 ≤ u
      · have HBY := As.mk (e8_of (u := u % 10) (by omega))
        have HNX := As.mk (HD.out.next h10 (UInt8.ofNat (48 + (u % 10).toNat)))
        have htd := tdiv10 hu0 HD.out.big
        go_wp2_with (at_builtin; refine OwnL.append w.heap.size rfl (.tmp 16) (.tmp 21) 188 5 _ 1 1 rfl Tryz.underlying188 info_u8q rfl (by decide) (by decide) _ bs (UInt8.ofNat (48 + (u % 10).toNat)) [.int .u8 (48 + u % 10)] rfl rfl (E := E8) HBY.out rfl (by simp [Value.oneCell']) HO.out HB.out HB.out.size HLT.out rfl ?_; intro v1 w2 hown hb' hg' hat; have HO2 := As.mk hown; have HB2 := As.mk hb'; clear hown hb' hg' hat)
        go_roundg (u / 10).toNat
        case measure => omega
        case rel => exact ⟨u / 10, _, by omega, by first | rw [htd] | go_num, HO2, HB2, HNX⟩
      · have HBY := As.mk (e8_of (u := u) (by omega))
        have HSM := As.mk HD.out.2.2.2
        generalize wr = wo at *
        go_wp2_with (at_builtin; first | (refine OwnL.append w.heap.size rfl (.tmp 25) (.tmp 29) 188 5 _ 1 1 rfl Tryz.underlying188 info_u8q rfl (by decide) (by decide) _ bs (UInt8.ofNat (48 + u.toNat)) [.int .u8 (48 + u)] rfl rfl (E := E8) HBY.out rfl (by simp [Value.oneCell']) HO.out HB.out HB.out.size HLT.out rfl ?_; intro v1 w2 hown hb' hg' hat; obtain ⟨q, hq⟩ : ∃ q, q = bs ++ [UInt8.ofNat (48 + u.toNat)] := ⟨_, rfl⟩; rw [← hq] at hown; obtain ⟨A4, c4, rfl, hc4⟩ := hown.shape; have HQ := As.mk hq; clear hq; have hql := hown.len; have HO2 := As.mk hown; have HB2 := As.mk hb'; clear hown hb' hg' hat))
        have HC := As.mk (own8_cells HO2.out)
        go_loopg [5, 6] q.length (fun g s5 s6 wr => ∃ (k : Nat), k ≤ q.length ∧ k ≤ g ∧ s6 = .int .i64 ((k : Int) - 1) ∧ s5 = .string ⟨(q.drop k).reverse.toArray⟩ ∧ w2 = wr)
        case atStart => exact ⟨q.length, by omega, by omega, by go_num, by simp, rfl⟩
        case round =>
          obtain ⟨k, hk, hg2, rfl, rfl, rfl⟩ := hrel
          by_cases hk0 : 0 < k
          · obtain ⟨g0, rfl⟩ := own8_addr HO2.out (by omega)
            obtain ⟨j, rfl⟩ : ∃ j, k = j + 1 := ⟨k - 1, by omega⟩
            obtain ⟨x, hx⟩ : ∃ x, q[j]? = some x := ⟨_, List.getElem?_eq_getElem (by omega)⟩
            have hcv := fun c => conv8 (P := Tryz.prog) (c := c) (HC.out g0 rfl j x hx) Tryz.underlying188 Tryz.underlying5 Tryz.underlying9
            have hji : ((j + 1 : Nat) : Int) - 1 = j := by omega
            have HDR := As.mk (drop_rev hx)
            rw [hji]
            go_wp2_with fail
            go_roundg j
            case measure => omega
            case rel => exact ⟨j, by omega, by omega, by go_num, by rw [HDR.out]; simp [ByteArray.append_eq] <;> rfl, rfl⟩
          · obtain rfl : k = 0 := by omega
            have HS9 : As (∀ d : Nat, n = d → d ≤ 9 → (⟨(q.drop 0).reverse.toArray⟩ : ByteArray) = ⟨#[UInt8.ofNat (48 + d)]⟩) := ⟨fun d hd h9 => by obtain ⟨h1, h2⟩ := HSM.out d hd h9; rw [HQ.out, h2, h1]; simp⟩
            have HZ9 : As ((⟨q.reverse.toArray⟩ : ByteArray).size ≤ 22) := ⟨by show q.reverse.toArray.size ≤ 22; rw [HQ.out]; have := HD.out.len; simp; omega⟩
            rw [List.drop_zero] at *
            generalize (⟨q.reverse.toArray⟩ : ByteArray) = st at *
            go_wp2_with fail
            go_ret
            exact ⟨⟨_, rfl, HS9.out, HZ9.out⟩, HB2.out⟩
end Go.Proofs.YtflckpfpgpfjlaaGreatDoor
end
section
namespace Go.Proofs.YtflckpfpgpfjlaaGreatDoor
open Go.RowKit Go.Sort
theorem r8layer_any (n : Int) (w : World) : Calls Tryz.prog 87 #[.int .i64 n] w fun e w' => (∃ k, e = .returned (.int .i64 k) ∧ (k = 9 ↔ n = 5)) ∧ w = w' := by
  go_enter Tryz.func87, Tryz.ntmps87
  go_wp2
  all_goals (go_ret; exact ⟨⟨_, rfl, by constructor <;> intro h <;> simp_all⟩, rfl⟩)
theorem r6One_any (n : Int) (w : World) : Calls Tryz.prog 188 #[.int .i64 n] w fun e w' => e = .returned (.bool (decide (3 ≤ n) && decide (n ≤ 14))) ∧ w = w' := by
  go_enter Tryz.func188, Tryz.ntmps188
  go_wp2
  all_goals (go_ret; exact ⟨ret_bool (by simp [*] <;> omega), rfl⟩)
theorem r6Two_any (n : Int) (w : World) : Calls Tryz.prog 189 #[.int .i64 n] w fun e w' => e = .returned (.bool (decide (5 ≤ n) && decide (n ≤ 9))) ∧ w = w' := by
  go_enter Tryz.func189, Tryz.ntmps189
  go_wp2
  all_goals (go_ret; exact ⟨ret_bool (by simp [*] <;> omega), rfl⟩)
theorem r5Least_any (a b : Int) (w : World) : Calls Tryz.prog 95 #[.int .i64 a, .int .i64 b] w fun e w' => (∃ k, e = .returned (.int .i64 k) ∧ (a = 0 → k = b)) ∧ w = w' := by
  by_cases h : a = 0
  · subst h
    go_enter Tryz.func95, Tryz.ntmps95
    go_wp2_with fail
    go_ret
    exact ⟨⟨_, rfl, fun _ => rfl⟩, rfl⟩
  · go_enter Tryz.func95, Tryz.ntmps95
    go_wp2
    all_goals (go_ret; exact ⟨⟨_, rfl, fun e => absurd e h⟩, rfl⟩)
theorem r8takes_any (op m1 m2 nk : Int) (name : ByteArray) (anti : Bool) (A1 A2 A3 A4 A5 A6 A7 : Option Addr) (l1 c1 l2 c2 l3 c3 l4 c4 l5 c5 l6 c6 l7 c7 : Nat) (w : World) :
    Calls Tryz.prog 88 #[.agg #[.int .i64 op, .int .i64 m1, .int .i64 m2, .int .i64 nk, .string name, .bool anti, .slice A1 l1 c1, .slice A2 l2 c2, .slice A3 l3 c3, .slice A4 l4 c4, .slice A5 l5 c5, .slice A6 l6 c6, .slice A7 l7 c7]] w fun e w' => (∃ k, e = .returned (.int .i64 k) ∧ (op = 5 → k = 2)) ∧ Ext w w' := by
  go_enter Tryz.func88, Tryz.ntmps88
  go_wp2
  all_goals (go_ret; exact ⟨⟨_, rfl, fun h => by simp_all⟩, (by with_reducible (repeat first | exact Ext.refl _ | assumption | apply Ext.alloc | apply Ext.drewN | apply Ext.drew | apply Ext.grow | refine Ext.trans ?_ (by assumption)))⟩)
theorem r6wide_in (a b m1 m2 nk : Int) (name : ByteArray) (anti : Bool) (A1 A2 A3 A4 A5 A6 A7 : Option Addr) (l1 c1 l2 c2 l3 c3 l4 c4 l5 c5 l6 c6 l7 c7 : Nat) (w : World) :
    Calls Tryz.prog 191 #[.agg #[.int .i64 1, .int .i64 m1, .int .i64 m2, .int .i64 nk, .string name, .bool anti, .slice A1 l1 c1, .slice A2 l2 c2, .slice A3 l3 c3, .slice A4 l4 c4, .slice A5 l5 c5, .slice A6 l6 c6, .slice A7 l7 c7], .int .i64 a, .int .i64 b] w fun e w' => e = .returned (.int .i64 nk) ∧ Ext w w' := by
  go_enter Tryz.func191, Tryz.ntmps191
  go_wp2_with fail
  go_ret
  exact ⟨rfl, (by with_reducible (repeat first | exact Ext.refl _ | assumption | apply Ext.alloc | apply Ext.drewN | apply Ext.drew | apply Ext.grow | refine Ext.trans ?_ (by assumption)))⟩
theorem r6wide_join (a b m1 m2 nk : Int) (name : ByteArray) (anti : Bool) (A1 A2 A3 A4 A5 A6 A7 : Option Addr) (l1 c1 l2 c2 l3 c3 l4 c4 l5 c5 l6 c6 l7 c7 : Nat) (w : World) (ha : 0 ≤ a ∧ a ≤ 1024) (hb : 0 ≤ b ∧ b ≤ 1024) :
    Calls Tryz.prog 191 #[.agg #[.int .i64 5, .int .i64 m1, .int .i64 m2, .int .i64 nk, .string name, .bool anti, .slice A1 l1 c1, .slice A2 l2 c2, .slice A3 l3 c3, .slice A4 l4 c4, .slice A5 l5 c5, .slice A6 l6 c6, .slice A7 l7 c7], .int .i64 a, .int .i64 b] w fun e w' => e = .returned (.int .i64 (a + b)) ∧ Ext w w' := by
  have hs : wrap64 (a + b) = a + b := by unfold wrap64; omega
  go_enter Tryz.func191, Tryz.ntmps191
  go_wp2_with fail
  go_ret
  exact ⟨by first | rfl | rw [hs], (by with_reducible (repeat first | exact Ext.refl _ | assumption | apply Ext.alloc | apply Ext.drewN | apply Ext.drew | apply Ext.grow | refine Ext.trans ?_ (by assumption)))⟩
set_option maxRecDepth 100000 in
set_option maxHeartbeats 2000000 in
theorem r6all_any (v : Value) (cols : List Int) (width : Int) (w : World) (hr : RdI w AnyB v cols) : Calls Tryz.prog 228 #[v, .int .i64 width] w fun e w' => e = .returned (.bool (colsIn cols width)) ∧ w = w' := by
  obtain ⟨A, c, rfl, _⟩ := hr.shape
  have hl := hr.len
  have HR := As.mk hr
  clear hr
  go_enter Tryz.func228, Tryz.ntmps228
  go_wp2_with fail
  go_loopg [5] cols.length (fun g s5 wr => ∃ k : Nat, k ≤ cols.length ∧ cols.length - k ≤ g ∧ s5 = .int .i64 k ∧ w = wr ∧ As (∀ (i : Nat) (c : Int), i < k → cols[i]? = some c → 0 ≤ c ∧ c < width))
  case atStart => exact ⟨0, by omega, by omega, by go_num, rfl, ⟨fun i c h => absurd h (Nat.not_lt_zero _)⟩⟩
  case round =>
    obtain ⟨k, hk, hg, rfl, rfl, HA⟩ := hrel
    by_cases hlt : k < cols.length
    · have hltz : (k : Int) < (cols.length : Int) := by omega
      obtain ⟨x, hx⟩ : ∃ x, cols[k]? = some x := ⟨_, List.getElem?_eq_getElem hlt⟩
      obtain ⟨b, o, c', hv, hb, hxi, e0⟩ := HR.out.val hx
      injection hv with hA _ hcc
      subst hA
      have HX := As.mk hx
      have hxi1 := hxi.1
      have hxi2 := hxi.2
      clear hx hcc hxi
      by_cases hin : 0 ≤ x ∧ x < width
      · obtain ⟨h0, h1⟩ := hin
        have h0b : decide (x < 0) = false := decide_eq_false (by omega)
        have h1b : decide (width ≤ x) = false := decide_eq_false (by omega)
        go_wp2_with fail
        go_roundg (cols.length - (k + 1))
        case measure => omega
        case rel => exact ⟨k + 1, by omega, by omega, by go_num, rfl, ⟨fun i c hi hc => by
          by_cases e : i = k
          · subst e; rw [HX.out] at hc; injection hc with hc; subst hc; exact ⟨h0, h1⟩
          · exact HA.out i c (by omega) hc⟩⟩
      · have HF : As (colsIn cols width = false) := ⟨colsIn_no HX.out hin⟩
        by_cases h0 : x < 0
        · have h0b : decide (x < 0) = true := decide_eq_true h0
          go_wp2_with fail
          go_ret
          exact ⟨by rw [HF.out]; rfl, rfl⟩
        · have h0b : decide (x < 0) = false := decide_eq_false h0
          have h1b : decide (width ≤ x) = true := decide_eq_true (by omega)
          go_wp2_with fail
          go_ret
          exact ⟨by rw [HF.out]; rfl, rfl⟩
    · have hltz : ¬ (k : Int) < (cols.length : Int) := by omega
      have hz : decide ((cols.length : Int) ≤ 1024) = colsIn cols width := by
        by_cases h : cols.length ≤ 1024
        · rw [colsIn_yes h fun i c hc => HA.out i c (by have := (List.getElem?_eq_some_iff.1 hc).1; omega) hc]
          exact decide_eq_true (by omega)
        · rw [decide_eq_false (show ¬ (cols.length : Int) ≤ 1024 by omega)]
          unfold colsIn
          rw [decide_eq_false h]; rfl
      have HZ := As.mk hz
      clear hz
      go_wp2_with fail
      go_ret
      exact ⟨by rw [← HZ.out]; rfl, rfl⟩
set_option maxRecDepth 100000 in
theorem r6lists_in (a b n m k : Int) (name : ByteArray) (anti : Bool) (A1 A2 A3 A4 A5 A6 A7 : Option Addr) (l1 c1 l2 c2 l3 c3 l4 c4 l5 c5 l6 c6 l7 c7 : Nat) (w : World) :
    Calls Tryz.prog 190 #[.agg #[.int .i64 1, .int .i64 n, .int .i64 m, .int .i64 k, .string name, .bool anti, .slice A1 l1 c1, .slice A2 l2 c2, .slice A3 l3 c3, .slice A4 l4 c4, .slice A5 l5 c5, .slice A6 l6 c6, .slice A7 l7 c7], .int .i64 a, .int .i64 b] w fun e w' => e = .returned (.bool true) ∧ Ext w w' := by
  go_enter Tryz.func190, Tryz.ntmps190
  go_wp2_with fail
  go_ret
  exact ⟨rfl, (by with_reducible (repeat first | exact Ext.refl _ | assumption | apply Ext.alloc | apply Ext.drewN | apply Ext.drew | apply Ext.grow | refine Ext.trans ?_ (by assumption)))⟩
set_option maxRecDepth 100000 in
set_option maxHeartbeats 2000000 in
theorem r6lists_join (a b n m k : Int) (name : ByteArray) (anti : Bool) (A1 A2 A3 A4 A5 A6 A7 : Option Addr) (c1 c2 l3 c3 l4 c4 l5 c5 l6 c6 l7 c7 : Nat) (cols others : List Int) (w : World) (h1 : RdI w AnyB (.slice A1 cols.length c1) cols) (h2 : RdI w AnyB (.slice A2 others.length c2) others) :
    Calls Tryz.prog 190 #[.agg #[.int .i64 5, .int .i64 n, .int .i64 m, .int .i64 k, .string name, .bool anti, .slice A1 cols.length c1, .slice A2 others.length c2, .slice A3 l3 c3, .slice A4 l4 c4, .slice A5 l5 c5, .slice A6 l6 c6, .slice A7 l7 c7], .int .i64 a, .int .i64 b] w fun e w' => e = .returned (.bool (joinIn cols others a b)) ∧ Ext w w' := by
  have q1 := fun W (hE : Ext w W) => r6all_any _ cols a W (h1.ext hE.below)
  have q2 := fun W (hE : Ext w W) => r6all_any _ others b W (h2.ext hE.below)
  clear h1 h2
  unfold joinIn
  by_cases he : cols.length = others.length
  · have hez : ((cols.length : Int) == (others.length : Int)) = true := by rw [beq_iff_eq, he]
    have hez2 : (cols.length == others.length) = true := by rw [beq_iff_eq]; exact he
    rw [decide_eq_true he, Bool.true_and]
    clear he
    cases hc1 : colsIn cols a with
    | false =>
      rw [hc1] at q1
      clear hc1 q2
      go_enter Tryz.func190, Tryz.ntmps190
      go_wp2_with (go_at_call 228; refine (q1 _ (by with_reducible (repeat first | exact Ext.refl _ | assumption | apply Ext.alloc | apply Ext.drewN | apply Ext.drew | apply Ext.grow | refine Ext.trans ?_ (by assumption)))).mono ?_; rintro e w' ⟨rfl, rfl⟩)
      go_ret
      exact ⟨rfl, (by with_reducible (repeat first | exact Ext.refl _ | assumption | apply Ext.alloc | apply Ext.drewN | apply Ext.drew | apply Ext.grow | refine Ext.trans ?_ (by assumption)))⟩
    | true =>
      rw [hc1] at q1
      generalize colsIn others b = y at q2
      go_enter Tryz.func190, Tryz.ntmps190
      go_wp2_with (go_at_call 228; (first | (with_reducible refine (q1 _ (by with_reducible (repeat first | exact Ext.refl _ | assumption | apply Ext.alloc | apply Ext.drewN | apply Ext.drew | apply Ext.grow | refine Ext.trans ?_ (by assumption)))).mono ?_) | (refine (q2 _ (by with_reducible (repeat first | exact Ext.refl _ | assumption | apply Ext.alloc | apply Ext.drewN | apply Ext.drew | apply Ext.grow | refine Ext.trans ?_ (by assumption)))).mono ?_)); rintro e w' ⟨rfl, rfl⟩)
      go_ret
      exact ⟨by simp, (by with_reducible (repeat first | exact Ext.refl _ | assumption | apply Ext.alloc | apply Ext.drewN | apply Ext.drew | apply Ext.grow | refine Ext.trans ?_ (by assumption)))⟩
  · have hez : ((cols.length : Int) == (others.length : Int)) = false := by rw [beq_eq_false_iff_ne]; omega
    have hez2 : (cols.length == others.length) = false := by simpa using he
    rw [decide_eq_false he, Bool.false_and, Bool.false_and]
    clear q1 q2
    go_enter Tryz.func190, Tryz.ntmps190
    go_wp2_with fail
    go_ret
    exact ⟨rfl, (by with_reducible (repeat first | exact Ext.refl _ | assumption | apply Ext.alloc | apply Ext.drewN | apply Ext.drew | apply Ext.grow | refine Ext.trans ?_ (by assumption)))⟩
end Go.Proofs.YtflckpfpgpfjlaaGreatDoor
end
section
namespace Go.Proofs.YtflckpfpgpfjlaaGreatDoor
open Go.RowKit Go.Sort
def GV2 (n : Int) : GV := ⟨2, n, 0, ⟨#[]⟩⟩
theorem GV2.ok {n : Int} (hn : i64 n) : (GV2 n).Ok := ⟨by unfold GV2 i64; simp, hn, by unfold GV2 u64; simp, by show (0 : Nat) ≤ _; omega⟩
theorem GV2.sound (n : Int) : vsound (GV2 n) = true := by unfold GV2 vsound; simp [eqGV]
def Begins (c : List UInt8) (s : ByteArray) : Prop := ∃ t : List UInt8, s = ⟨(c ++ t).toArray⟩
def DigPost (n : Int) (w : World) (e : Ending) (w' : World) : Prop := (∃ s : ByteArray, e = .returned (.string s) ∧ (∀ d : Nat, n = d → d ≤ 9 → s = ⟨#[UInt8.ofNat (48 + d)]⟩) ∧ s.size ≤ 22) ∧ Below w.heap.size w w'
set_option maxRecDepth 100000 in
theorem r1Show_num (n : Int) (w : World) (hn : i64 n) : Calls Tryz.prog 257 #[.agg #[.int .i64 2, .int .i64 n, .int .u64 0, .string ⟨#[]⟩]] w (DigPost n w) := by
  have mixed := mixed
  have h1 := fun W => r1Sound_any (GV2 n) W (GV2.ok hn)
  have h2 := fun W => r1digits_any n W hn
  rw [GV2.sound] at h1
  unfold GV2 at h1
  go_enter Tryz.func257, Tryz.ntmps257
  go_wp2_with fail
  refine (h1 _).mono ?_
  rintro e w1 ⟨rfl, hE⟩
  have V := (ValAt.new w w.heap.size 2 n 0 ⟨#[]⟩ 96 rfl).ext hE
  obtain ⟨a0, a1, a2, a3⟩ := V
  have HB1 := As.mk ((Ext.alloc (Ext.refl w) (.cells #[.int .i64 2, .int .i64 n, .int .u64 0, .string ⟨#[]⟩] 96)).trans hE).below
  clear hE h1
  go_wp2_with fail
  refine (h2 w1).mono ?_
  rintro e w2 ⟨⟨s, rfl, hs, hz⟩, hB⟩
  have HZ := As.mk hz
  have HS := As.mk hs
  have HB2 := As.mk (HB1.out.trans (hB.mono HB1.out.size))
  clear hs hB h2 hz
  go_wp2_with fail
  go_ret
  exact ⟨⟨s, rfl, HS.out, HZ.out⟩, HB2.out⟩
theorem r6num_any (n : Int) (w : World) (hn : i64 n) : Calls Tryz.prog 255 #[.int .i64 n] w (DigPost n w) := by
  have h1 := fun W => r1Show_num n W hn
  go_enter Tryz.func255, Tryz.ntmps255
  go_wp2_with fail
  refine (h1 w).mono ?_
  rintro e w2 ⟨⟨s, rfl, hs, hz⟩, hB⟩
  have HZ := As.mk hz
  have HS := As.mk hs
  have HB2 := As.mk hB
  clear hs hB h1 hz
  go_wp2_with fail
  go_ret
  exact ⟨⟨s, rfl, HS.out, HZ.out⟩, HB2.out⟩
def StrPost (N : Nat) (w : World) (e : Ending) (w' : World) : Prop := (∃ s : ByteArray, e = .returned (.string s) ∧ s.size ≤ N) ∧ Below w.heap.size w w'
theorem size_app (a b : ByteArray) : (a ++ b).size = a.size + b.size := ByteArray.size_append
set_option maxRecDepth 100000 in
theorem r6nums_any (v : Value) (cols : List Int) (w : World) (hr : RdI w AnyB v cols) : Calls Tryz.prog 258 #[v] w (StrPost (3 + 32 * cols.length) w) := by
  obtain ⟨A, c, rfl, _⟩ := hr.shape
  have hl := hr.len
  have HR := As.mk hr
  clear hr
  go_enter Tryz.func258, Tryz.ntmps258
  go_wp2_with fail
  go_loopg [3, 4] cols.length (fun g s3 s4 wr => ∃ (k : Nat) (s : ByteArray), k ≤ cols.length ∧ cols.length - k ≤ g ∧ s3 = .string s ∧ s4 = .int .i64 k ∧ As (s.size ≤ 2 + 32 * k) ∧ As (Below w.heap.size w wr))
  case atStart => exact ⟨0, _, by omega, by omega, rfl, by go_num, ⟨by show (2 : Nat) ≤ _; omega⟩, ⟨Below.refl _ _⟩⟩
  case round =>
    obtain ⟨k, s, hk, hg, rfl, rfl, HSZ, HB⟩ := hrel
    have hsz := HSZ.out
    by_cases hlt : k < cols.length
    · have hltz : (k : Int) < (cols.length : Int) := by omega
      obtain ⟨x, hx⟩ : ∃ x, cols[k]? = some x := ⟨_, List.getElem?_eq_getElem hlt⟩
      obtain ⟨b, o, c', hv, hb, hxi, e0⟩ := (HR.out.ext HB.out).val hx
      injection hv with hA _ hcc
      subst hA
      have HN := As.mk (r6num_any x wr hxi)
      clear hx hcc hxi
      by_cases h0 : 0 < k
      · have h0z : 0 < (k : Int) := by omega
        go_wp2_with fail
        refine HN.out.mono ?_
        rintro e w2 ⟨⟨s2, rfl, _, hs2⟩, hB⟩
        have HB2 := As.mk (HB.out.trans (hB.mono HB.out.size))
        clear hB
        go_wp2_with fail
        go_roundg (cols.length - (k + 1))
        case measure => omega
        case rel => exact ⟨k + 1, _, by omega, by omega, rfl, by go_num, ⟨by rw [size_app, size_app]; show s.size + 1 + s2.size ≤ _; omega⟩, HB2⟩
      · have h0z : ¬ 0 < (k : Int) := by omega
        go_wp2_with fail
        refine HN.out.mono ?_
        rintro e w2 ⟨⟨s2, rfl, _, hs2⟩, hB⟩
        have HB2 := As.mk (HB.out.trans (hB.mono HB.out.size))
        clear hB
        go_wp2_with fail
        go_roundg (cols.length - (k + 1))
        case measure => omega
        case rel => exact ⟨k + 1, _, by omega, by omega, rfl, by go_num, ⟨by rw [size_app]; omega⟩, HB2⟩
    · have hltz : ¬ (k : Int) < (cols.length : Int) := by omega
      go_wp2_with fail
      go_ret
      exact ⟨⟨_, rfl, by rw [size_app]; show s.size + 1 ≤ _; omega⟩, HB.out⟩
theorem lit8 (w : World) (x : UInt8) : OwnL 1 E8 5 (w.alloc (.cells #[.int .u8 x.toNat] 5)) w.heap.size (.slice (some ⟨w.heap.size, 0, none⟩) 1 1) [x] :=
  ⟨[.int .u8 x.toNat], ⟨rfl, .inr ⟨w.heap.size, 1, #[.int .u8 x.toNat], rfl, Nat.le_refl _, heap_alloc_new w _, Nat.le_refl _, by decide, rfl, rfl⟩⟩, (Reps.nil 1 E8).snoc (x := x) rfl rfl, by simp [Value.oneCell'], by simp⟩
theorem conv8l {P : Program} {w : World} {base c : Nat} {A : Option Addr} {xs : List UInt8} {src dst : TypeId} (h : OwnL 1 E8 5 w base (.slice A xs.length c) xs) (hn : 0 < xs.length) (hs : P.underlying src = some (.slice 5)) (he : P.underlying 5 = some (.int .u8)) (hd : P.underlying dst = some .string) :
    (convert src dst (.slice A xs.length c)).run P w = .ok (.string ⟨xs.toArray⟩) w := by
  obtain ⟨g, rfl⟩ := own8_addr h hn
  exact run_convert_bytes_back (P := P) w src dst 5 ⟨g, 0, none⟩ c xs hs he hd fun j hj => by
    rw [add_lit]
    simpa using own8_cells h g rfl j xs[j] (List.getElem?_eq_getElem hj)
set_option maxRecDepth 100000 in
set_option maxHeartbeats 2000000 in
theorem r1Quoted_x (w : World) : Calls Tryz.prog 256 #[.string ⟨#[120]⟩] w (StrPost 100 w) := by
  have mixed := mixed
  have HO0 : As (OwnL 1 E8 5 (w.alloc (.cells #[.int .u8 39] 5)) w.heap.size (.slice (some ⟨w.heap.size, 0, none⟩) 1 1) [39]) := As.mk (lit8 w 39)
  have HB0 : As (Below w.heap.size w (w.alloc (.cells #[.int .u8 39] 5))) := ⟨(Ext.alloc (Ext.refl _) _).below⟩
  go_enter Tryz.func256, Tryz.ntmps256
  go_wp2_with fail
  go_loopg [3, 4, 5] 1 (fun g s3 s4 _ wr => ∃ (k : Nat) (q : List UInt8), k ≤ 1 ∧ 1 - k ≤ g ∧ s4 = .int .i64 k ∧ As (OwnL 1 E8 5 wr w.heap.size s3 q) ∧ As (Below w.heap.size w wr) ∧ 0 < q.length ∧ q.length ≤ 1 + k)
  case atStart => exact ⟨0, [39], by omega, by omega, by go_num, HO0, HB0, by decide, by decide⟩
  case round =>
    obtain ⟨k, q, hk, hg, rfl, HO, HB, hq0, hq⟩ := hrel
    have HLT : As (q.length < 4294967296) := ⟨by omega⟩
    by_cases h0 : k = 0
    · subst h0
      have hx120 : ((((⟨#[120]⟩ : ByteArray)[0]'(by decide)).toNat : Nat) : Int) = 120 := rfl
      go_wp2_with (at_builtin; refine OwnL.append w.heap.size rfl (.tmp 35) (.tmp 37) 188 5 _ 1 1 rfl Tryz.underlying188 info_u8q rfl (by decide) (by decide) _ q 120 [.int .u8 120] rfl rfl (E := E8) (by rfl) rfl (by simp [Value.oneCell']) HO.out HB.out HB.out.size HLT.out rfl ?_; intro v1 w2 hown hb' hg' hat; have HO2 := As.mk hown; have HB2 := As.mk hb'; clear hown hb' hg' hat)
      go_roundg 0
      case measure => omega
      case rel => exact ⟨1, _, by omega, by omega, by go_num, HO2, HB2, by simp, by simp; omega⟩
    · obtain rfl : k = 1 := by omega
      go_wp2_with (at_builtin; refine OwnL.append w.heap.size rfl (.tmp 45) (.tmp 46) 188 5 _ 1 1 rfl Tryz.underlying188 info_u8q rfl (by decide) (by decide) _ q 39 [.int .u8 39] rfl rfl (E := E8) (by rfl) rfl (by simp [Value.oneCell']) HO.out HB.out HB.out.size HLT.out rfl ?_; intro v1 w2 hown hb' hg' hat; obtain ⟨p, hp⟩ : ∃ p, p = q ++ [39] := ⟨_, rfl⟩; rw [← hp] at hown; have hpl : 0 < p.length ∧ p.length ≤ 3 := (by rw [hp]; simp; omega); clear hp; obtain ⟨A4, c4, rfl, hc4⟩ := hown.shape; have hcv := conv8l (P := Tryz.prog) hown hpl.1 Tryz.underlying188 Tryz.underlying5 Tryz.underlying9; have HO2 := As.mk hown; have HB2 := As.mk hb'; clear hown hb' hg' hat)
      go_ret
      exact ⟨⟨_, rfl, by show p.toArray.size ≤ 100; simp; omega⟩, HB2.out⟩
theorem nkc {w w1 : World} (hb : Below w.heap.size w w1) {a : Addr} {v : Value} (h : w.cell? a = some v) : w1.cell? a = some v := (hb.cell (World.block_lt_of_cell? w a h)).trans h
theorem node_keep (op m1 m2 nk : Int) (name : ByteArray) (anti : Bool) (A1 A2 A3 A4 A5 A6 A7 : Option Addr) (l1 c1 l2 c2 l3 c3 l4 c4 l5 c5 l6 c6 l7 c7 : Nat) (w W0 : World) (T : TypeId) (hW : W0 = w.alloc (.cells #[.int .i64 op, .int .i64 m1, .int .i64 m2, .int .i64 nk, .string name, .bool anti, .slice A1 l1 c1, .slice A2 l2 c2, .slice A3 l3 c3, .slice A4 l4 c4, .slice A5 l5 c5, .slice A6 l6 c6, .slice A7 l7 c7] T)) (W : World) (hb : Below W0.heap.size W0 W) :
    W.cell? ⟨w.heap.size, 0, none⟩ = some (.int .i64 op) ∧ W.cell? ⟨w.heap.size, 1, none⟩ = some (.int .i64 m1) ∧ W.cell? ⟨w.heap.size, 2, none⟩ = some (.int .i64 m2) ∧ W.cell? ⟨w.heap.size, 3, none⟩ = some (.int .i64 nk) ∧ W.cell? ⟨w.heap.size, 4, none⟩ = some (.string name) ∧ W.cell? ⟨w.heap.size, 5, none⟩ = some (.bool anti) ∧ W.cell? ⟨w.heap.size, 6, none⟩ = some (.slice A1 l1 c1) ∧ W.cell? ⟨w.heap.size, 7, none⟩ = some (.slice A2 l2 c2) ∧
    W.cell? ⟨w.heap.size, 8, none⟩ = some (.slice A3 l3 c3) ∧ W.cell? ⟨w.heap.size, 9, none⟩ = some (.slice A4 l4 c4) ∧ W.cell? ⟨w.heap.size, 10, none⟩ = some (.slice A5 l5 c5) ∧ W.cell? ⟨w.heap.size, 11, none⟩ = some (.slice A6 l6 c6) ∧ W.cell? ⟨w.heap.size, 12, none⟩ = some (.slice A7 l7 c7) := by
  obtain ⟨n0, n1, n2, n3, n4, n5, n6, n7, n8, n9, n10, n11, n12⟩ := node_all w op m1 m2 nk name anti A1 A2 A3 A4 A5 A6 A7 l1 c1 l2 c2 l3 c3 l4 c4 l5 c5 l6 c6 l7 c7 T W0 hW
  exact ⟨nkc hb n0, nkc hb n1, nkc hb n2, nkc hb n3, nkc hb n4, nkc hb n5, nkc hb n6, nkc hb n7, nkc hb n8, nkc hb n9, nkc hb n10, nkc hb n11, nkc hb n12⟩
set_option maxRecDepth 100000 in
set_option maxHeartbeats 2000000 in
theorem r6text_in (a : Int) (w : World) (ha : i64 a) : Calls Tryz.prog 230 #[.agg #[.int .i64 1, .int .i64 0, .int .i64 0, .int .i64 a, .string ⟨#[120]⟩, .bool false, .slice none 0 0, .slice none 0 0, .slice none 0 0, .slice none 0 0, .slice none 0 0, .slice none 0 0, .slice none 0 0]] w fun e w' => (∃ s : ByteArray, e = .returned (.string s) ∧ Begins [49, 32] s) ∧ Below w.heap.size w w' := by
  have h1 := fun W => r6num_any 1 W (by unfold i64; omega)
  have h2 := fun W => r6num_any a W ha
  have h3 := fun W => r1Quoted_x W
  obtain ⟨W0, hW0⟩ : ∃ W0, W0 = w.alloc (.cells #[.int .i64 1, .int .i64 0, .int .i64 0, .int .i64 a, .string ⟨#[120]⟩, .bool false, .slice none 0 0, .slice none 0 0, .slice none 0 0, .slice none 0 0, .slice none 0 0, .slice none 0 0, .slice none 0 0] 28) := ⟨_, rfl⟩
  have HND := As.mk (node_keep 1 0 0 a ⟨#[120]⟩ false none none none none none none none 0 0 0 0 0 0 0 0 0 0 0 0 0 0 w W0 28 hW0)
  have HE0 : As (Below w.heap.size w W0) := ⟨by rw [hW0]; exact (Ext.alloc (Ext.refl w) _).below⟩
  go_enter Tryz.func230, Tryz.ntmps230
  go_wp2_with fail
  rw [← hW0]
  refine (h1 W0).mono ?_
  rintro e w2 ⟨⟨s, rfl, hs, hz⟩, hB⟩
  obtain rfl := hs 1 rfl (by decide)
  have HB2 := As.mk hB
  obtain ⟨n0, n1, n2, n3, n4, n5, n6, n7, n8, n9, n10, n11, n12⟩ := HND.out _ HB2.out
  clear hs hz hB h1 hW0
  go_wp2_with (first | (go_at_call 188; refine (r6One_any _ _).mono ?_; rintro e w' ⟨rfl, rfl⟩) | (go_at_call 189; refine (r6Two_any _ _).mono ?_; rintro e w' ⟨rfl, rfl⟩))
  refine (h2 _).mono ?_
  rintro e w3 ⟨⟨s, rfl, _, hz⟩, hB⟩
  have HB3 := As.mk (HB2.out.trans (hB.mono HB2.out.size))
  clear n0 n1 n2 n3 n4 n5 n6 n7 n8 n9 n10 n11 n12
  obtain ⟨n0, n1, n2, n3, n4, n5, n6, n7, n8, n9, n10, n11, n12⟩ := HND.out _ HB3.out
  clear hB h2
  go_wp2_with fail
  refine (h3 _).mono ?_
  rintro e w4 ⟨⟨s2, rfl, hz2⟩, hB⟩
  have HB4 := As.mk (HB3.out.trans (hB.mono HB3.out.size))
  clear n0 n1 n2 n3 n4 n5 n6 n7 n8 n9 n10 n11 n12
  obtain ⟨n0, n1, n2, n3, n4, n5, n6, n7, n8, n9, n10, n11, n12⟩ := HND.out _ HB4.out
  clear hB h3
  go_wp2_with fail
  go_ret
  exact ⟨⟨_, rfl, ⟨s.data.toList ++ (32 :: s2.data.toList), by apply ByteArray.ext; simp [ByteArray.data_append]⟩⟩, HE0.out.trans (HB4.out.mono HE0.out.size)⟩
set_option maxRecDepth 100000 in
set_option maxHeartbeats 4000000 in
theorem r6text_join (a b : Int) (A1 A2 : Option Addr) (c1 c2 : Nat) (cols others : List Int) (w : World) (ha : i64 a) (hb : i64 b) (hr1 : RdI w AnyB (.slice A1 cols.length c1) cols) (hr2 : RdI w AnyB (.slice A2 others.length c2) others) :
    Calls Tryz.prog 230 #[.agg #[.int .i64 5, .int .i64 a, .int .i64 b, .int .i64 0, .string ⟨#[]⟩, .bool false, .slice A1 cols.length c1, .slice A2 others.length c2, .slice none 0 0, .slice none 0 0, .slice none 0 0, .slice none 0 0, .slice none 0 0]] w fun e w' => (∃ s : ByteArray, e = .returned (.string s) ∧ Begins [53] s) ∧ Below w.heap.size w w' := by
  have h1 := fun W => r6num_any 5 W (by unfold i64; omega)
  have h2 := fun W => r6num_any a W ha
  have h3 := fun W => r6num_any b W hb
  have hl1 := hr1.len
  have hl2 := hr2.len
  obtain ⟨W0, hW0⟩ : ∃ W0, W0 = w.alloc (.cells #[.int .i64 5, .int .i64 a, .int .i64 b, .int .i64 0, .string ⟨#[]⟩, .bool false, .slice A1 cols.length c1, .slice A2 others.length c2, .slice none 0 0, .slice none 0 0, .slice none 0 0, .slice none 0 0, .slice none 0 0] 28) := ⟨_, rfl⟩
  have HND := As.mk (node_keep 5 a b 0 ⟨#[]⟩ false A1 A2 none none none none none cols.length c1 others.length c2 0 0 0 0 0 0 0 0 0 0 w W0 28 hW0)
  have HE0 : As (Below w.heap.size w W0) := ⟨by rw [hW0]; exact (Ext.alloc (Ext.refl w) _).below⟩
  have HL1 := As.mk (fun W (hB : Below w.heap.size w W) => r6nums_any _ cols W (hr1.ext hB))
  have HL2 := As.mk (fun W (hB : Below w.heap.size w W) => r6nums_any _ others W (hr2.ext hB))
  clear hr1 hr2
  go_enter Tryz.func230, Tryz.ntmps230
  go_wp2_with fail
  rw [← hW0]
  refine (h1 W0).mono ?_
  rintro e w2 ⟨⟨s, rfl, hs, hz⟩, hB⟩
  obtain rfl := hs 5 rfl (by decide)
  have HB2 := As.mk hB
  obtain ⟨n0, n1, n2, n3, n4, n5, n6, n7, n8, n9, n10, n11, n12⟩ := HND.out _ HB2.out
  clear hs hz hB h1 hW0
  go_wp2_with (first | (go_at_call 188; refine (r6One_any _ _).mono ?_; rintro e w' ⟨rfl, rfl⟩) | (go_at_call 189; refine (r6Two_any _ _).mono ?_; rintro e w' ⟨rfl, rfl⟩))
  refine (h2 _).mono ?_
  rintro e w3 ⟨⟨s, rfl, _, hz⟩, hB⟩
  have HB3 := As.mk (HB2.out.trans (hB.mono HB2.out.size))
  clear n0 n1 n2 n3 n4 n5 n6 n7 n8 n9 n10 n11 n12
  obtain ⟨n0, n1, n2, n3, n4, n5, n6, n7, n8, n9, n10, n11, n12⟩ := HND.out _ HB3.out
  clear hB h2
  go_wp2_with (first | (go_at_call 188; refine (r6One_any _ _).mono ?_; rintro e w' ⟨rfl, rfl⟩) | (go_at_call 189; refine (r6Two_any _ _).mono ?_; rintro e w' ⟨rfl, rfl⟩))
  refine (h3 _).mono ?_
  rintro e w4 ⟨⟨s2, rfl, _, hz2⟩, hB⟩
  have HB4 := As.mk (HB3.out.trans (hB.mono HB3.out.size))
  have HBW := As.mk (HE0.out.trans (HB4.out.mono HE0.out.size))
  clear n0 n1 n2 n3 n4 n5 n6 n7 n8 n9 n10 n11 n12
  obtain ⟨n0, n1, n2, n3, n4, n5, n6, n7, n8, n9, n10, n11, n12⟩ := HND.out _ HB4.out
  clear hB h3
  go_wp2_with fail
  refine (HL1.out _ HBW.out).mono ?_
  rintro e w5 ⟨⟨s3, rfl, hz3⟩, hB⟩
  have HB5 := As.mk (HB4.out.trans (hB.mono HB4.out.size))
  have HBW := As.mk (HE0.out.trans (HB5.out.mono HE0.out.size))
  clear n0 n1 n2 n3 n4 n5 n6 n7 n8 n9 n10 n11 n12
  obtain ⟨n0, n1, n2, n3, n4, n5, n6, n7, n8, n9, n10, n11, n12⟩ := HND.out _ HB5.out
  clear hB
  go_wp2_with fail
  refine (HL2.out _ HBW.out).mono ?_
  rintro e w6 ⟨⟨s4, rfl, hz4⟩, hB⟩
  have HB6 := As.mk (HB5.out.trans (hB.mono HB5.out.size))
  have HBW := As.mk (HE0.out.trans (HB6.out.mono HE0.out.size))
  clear n0 n1 n2 n3 n4 n5 n6 n7 n8 n9 n10 n11 n12
  obtain ⟨n0, n1, n2, n3, n4, n5, n6, n7, n8, n9, n10, n11, n12⟩ := HND.out _ HB6.out
  clear hB
  go_wp2_with fail
  go_ret
  exact ⟨⟨_, rfl, ⟨32 :: s.data.toList ++ (32 :: s2.data.toList) ++ s3.data.toList ++ s4.data.toList, by apply ByteArray.ext; simp [ByteArray.data_append]⟩⟩, HBW.out⟩
end Go.Proofs.YtflckpfpgpfjlaaGreatDoor
end
