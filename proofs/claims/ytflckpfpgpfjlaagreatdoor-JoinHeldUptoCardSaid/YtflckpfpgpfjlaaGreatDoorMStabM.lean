/- The walks of the stable sort at entries: symMerge, stable. -/
import Derived.Test.YtflckpfpgpfjlaaGreatDoorMStabW
set_option linter.unusedVariables false
set_option linter.unusedSimpArgs false
namespace Go.Proofs.YtflckpfpgpfjlaaGreatDoor
open Go.RowKit Go.Sort Go.Shelf Go.Lib
section
variable {α : Type} [Inhabited α] {enc : α → List Value} {w0 : World} {blk off : Nat} {d0 : Array α} {cf : α → α → Int}
/-- Two elements' cells, and what comparing them answers, in every world that the sort passes through. -/
theorem pair_at (hP : Pairs enc) (R : RowK enc 2 w0 blk off d0) (hC : CmpLays Tryz.prog 57 #[] enc 2 cf blk off d0.size w0) {d : Array α} (hs : d.size = d0.size) (p q : Nat) (hp : p < d.size) (hq : q < d.size) {W : World} (S : SWK enc 2 w0 blk off d W) :
    ∃ (A : Option Addr) (n c : Nat) (m : Int) (B : Option Addr) (k e : Nat) (l : Int), (∀ x os, (grow (W.drewN x) os).cell? ⟨blk, off + p * 2, none⟩ = some (.slice A n c)) ∧ (∀ x os, (grow (W.drewN x) os).cell? ⟨blk, off + p * 2 + 1, none⟩ = some (.int .i64 m)) ∧ (∀ x os, (grow (W.drewN x) os).cell? ⟨blk, off + q * 2, none⟩ = some (.slice B k e)) ∧ (∀ x os, (grow (W.drewN x) os).cell? ⟨blk, off + q * 2 + 1, none⟩ = some (.int .i64 l)) ∧
      ∀ x os, Calls Tryz.prog 57 #[.agg #[.slice A n c, .int .i64 m], .agg #[.slice B k e, .int .i64 l]] (grow (W.drewN x) os) fun r w' => r = .returned (.int .i64 (cf d[p]! d[q]!)) ∧ Ext (grow (W.drewN x) os) w' := by
  obtain ⟨A, n, c, m, e1⟩ := hP d[p]!
  obtain ⟨B, k, e, l, e2⟩ := hP d[q]!
  have hc : ∀ x os y, y < 2 → (grow (W.drewN x) os).cell? ⟨blk, off + p * 2 + y, none⟩ = some (enc d[p]!)[y]! ∧ (grow (W.drewN x) os).cell? ⟨blk, off + q * 2 + y, none⟩ = some (enc d[q]!)[y]! := fun x os y hy => by
    have hH := (S.grown x os).holds R.hblk R.hH hs
    exact ⟨(hH.cell hp hy).1, (hH.cell hq hy).1⟩
  rw [e1, e2] at hc
  refine ⟨A, n, c, m, B, k, e, l, fun x os => (hc x os 0 (by omega)).1, fun x os => (hc x os 1 (by omega)).1, fun x os => (hc x os 0 (by omega)).2, fun x os => (hc x os 1 (by omega)).2, fun x os => ?_⟩
  have h := S.cmp hC hs d[p]! d[q]! x os
  rw [e1, e2] at h
  exact h.mono fun _ _ ⟨he, r, os', hw⟩ => ⟨he, r, os', hw⟩
set_option maxHeartbeats 8000000 in
set_option maxRecDepth 1000000 in
theorem symMerge_any (hP : Pairs enc) (R : RowK enc 2 w0 blk off d0) (hC : CmpLays Tryz.prog 57 #[] enc 2 cf blk off d0.size w0) (hO : SWO (ltOf cf)) (cap : Nat) (hsz : d0.size < 4611686018427387904) : ∀ (N a m b : Nat) (d : Array α) (w : World), b - a ≤ N → d.size = d0.size → SWK enc 2 w0 blk off d w → a < m → m < b → b ≤ d.size → SortedIn (ltOf cf) a m d → SortedIn (ltOf cf) m b d →
    Calls Tryz.prog 167 #[.slice (some ⟨blk, off, none⟩) d0.size cap, .int .i64 a, .int .i64 m, .int .i64 b, .func (.func 57) #[] #[]] w fun e w' => e = .returned (.tuple #[]) ∧
      ∃ d', SWK enc 2 w0 blk off d' w' ∧ d'.size = d0.size ∧ PermIn a b d d' ∧ SortedIn (ltOf cf) a b d' := by
  intro N
  induction N with
  | zero => intro a m b d w h1 h2 h3 h4 h5; omega
  | succ N ih =>
    intro a m b d w hN hds S ham hmb hb hs1 hs2
    have mixed := mixed
    have IH := As.mk ih
    have HP := As.mk hP
    have HR := As.mk R
    have HC := As.mk hC
    have HO := As.mk hO
    have S0 := As.mk S
    have H1 := As.mk hs1
    have H2 := As.mk hs2
    have w1 : IntKind.i64.wrap ((m : Int) - a) = (m : Int) - a := by rw [IntKind.wrap_i64]; omega
    have w2 : IntKind.i64.wrap ((b : Int) - m) = (b : Int) - m := by rw [IntKind.wrap_i64]; omega
    clear ih hP R hC hO S hs1 hs2
    by_cases hma : m = a + 1
    · subst hma
      have hb1 : (((a : Int) + 1 - a) == 1) = true := by rw [beq_iff_eq]; omega
      go_enter Tryz.func167, Tryz.ntmps167
      go_wp2_with fail
      go_loopg [10, 11, 12] (b - (a + 1)) (fun kx s10 s11 _ wr => ∃ (i j : Nat), j - i ≤ kx ∧ a + 1 ≤ i ∧ i ≤ j ∧ j ≤ b ∧ s10 = .int .i64 i ∧ s11 = .int .i64 j ∧ As (SWK enc 2 w0 blk off d wr) ∧ As (∀ x, a + 1 ≤ x → x < i → ltOf cf d[x]! d[a]! = true) ∧ As (∀ x, j ≤ x → x < b → ltOf cf d[x]! d[a]! = false))
      case atStart => exact ⟨a + 1, b, by omega, by omega, by omega, by omega, by go_num, rfl, S0, ⟨fun x h1 h2 => by omega⟩, ⟨fun x h1 h2 => by omega⟩⟩
      case round =>
        obtain ⟨i, j, hk, hi, hij, hjb, rfl, rfl, S1, L1, L2⟩ := hrel
        by_cases hlt : i < j
        · have hltz : (i : Int) < (j : Int) := by omega
          obtain ⟨A1, n1, c1, m1, B1, k1, e1, l1, p0, p1, q0, q1, hcmp⟩ := pair_at HP.out HR.out HC.out hds ((i + j) / 2) a (by omega) (by omega) S1.out
          have HQ : As (ltOf cf d[(i + j) / 2]! d[a]! = decide (cf d[(i + j) / 2]! d[a]! < 0)) := ⟨rfl⟩
          generalize cf d[(i + j) / 2]! d[a]! = q at *
          by_cases hq : q < 0
          · have HL : As (∀ x, a + 1 ≤ x → x < (i + j) / 2 + 1 → ltOf cf d[x]! d[a]! = true) := ⟨fun x h1 h2 => by
              rcases Nat.lt_or_ge x i with hx | hx
              · exact L1.out x h1 hx
              · cases hc : ltOf cf d[x]! d[a]! with
                | true => rfl
                | false =>
                  have := HO.out.ntrans _ _ _ (sorted_le HO.out H2.out h1 (show x ≤ (i + j) / 2 by omega) (by omega)) hc
                  rw [HQ.out, decide_eq_true hq] at this; cases this⟩
            go_wp2_with fail
            (refine wp_region_quiet_grown (by assumption) (by kernel_rfl) ?_; (repeat (go_big_quiet_step ( (go_at_call 57; exact grown_ext (hcmp _ _)) ))); refine wpQuiet_nil ?_; intro _ hw'; obtain ⟨⟨nq, osq⟩, hw''⟩ := hw'; subst hw'')
            go_wp2_with fail
            go_roundg (j - ((i + j) / 2 + 1))
            case measure => omega
            case rel => exact ⟨(i + j) / 2 + 1, j, by omega, by omega, by omega, by omega, by go_num, rfl, ⟨S1.out.grown _ _⟩, HL, L2⟩
          · have HL : As (∀ x, (i + j) / 2 ≤ x → x < b → ltOf cf d[x]! d[a]! = false) := ⟨fun x h1 h2 => by
              refine HO.out.ntrans _ _ _ (sorted_le HO.out H2.out (show a + 1 ≤ (i + j) / 2 by omega) h1 h2) ?_
              rw [HQ.out, decide_eq_false hq]⟩
            go_wp2_with fail
            (refine wp_region_quiet_grown (by assumption) (by kernel_rfl) ?_; (repeat (go_big_quiet_step ( (go_at_call 57; exact grown_ext (hcmp _ _)) ))); refine wpQuiet_nil ?_; intro _ hw'; obtain ⟨⟨nq, osq⟩, hw''⟩ := hw'; subst hw'')
            go_wp2_with fail
            go_roundg ((i + j) / 2 - i)
            case measure => omega
            case rel => exact ⟨i, (i + j) / 2, by omega, by omega, by omega, by omega, rfl, by go_num, ⟨S1.out.grown _ _⟩, L1, HL⟩
        · obtain rfl : i = j := by omega
          have hltz : ¬ (i : Int) < (i : Int) := by omega
          have x1 : IntKind.i64.wrap ((i : Int) - 1) = (i : Int) - 1 := by rw [IntKind.wrap_i64]; omega
          generalize wr = wp at *
          go_wp2_with fail
          go_loopg [13] (i - 1 - a) (fun kx s13 wr => ∃ (k : Nat) (dk : Array α), i - 1 - k ≤ kx ∧ a ≤ k ∧ k ≤ i - 1 ∧ s13 = .int .i64 k ∧ dk.size = d0.size ∧ As (SWK enc 2 w0 blk off dk wr) ∧ As (PermIn a b d dk) ∧ As (∀ x, dk[x]! = rotF (fun x => d[x]!) a (a + 1) (k + 1) x))
          case atStart => exact ⟨a, d, by omega, by omega, by omega, rfl, hds, S1, ⟨permIn_refl _ _ _⟩, ⟨fun x => rot_id2 x⟩⟩
          case round =>
            obtain ⟨k, dk, hk2, hak, hki, rfl, hdk, S2, P2, T2⟩ := hrel
            by_cases hlt2 : k < i - 1
            · have hltz2 : (k : Int) < (i : Int) - 1 := by omega
              obtain ⟨A1, n1, c1, m1, B1, k1, d1, l1, X⟩ := exch HP.out S2.out HR.out hdk k (k + 1) (by omega) (by omega)
              have XO := As.mk X.out
              have XP := As.mk (permIn_trans _ _ _ _ _ P2.out (swp_permIn dk a b k (k + 1) (by omega) (by omega) (by omega) (by omega) (by omega)))
              have XT := As.mk (rot_up T2.out hak (by omega))
              have XS := As.mk ((size_swp dk k (k + 1)).trans hdk)
              obtain ⟨a0, a1, b0, b1, f0, f1, g0, g1, _, _, _⟩ := X
              clear hdk
              go_wp2_with fail
              go_big_region_o
              go_wp2
              go_roundg (i - 1 - (k + 1))
              case measure => omega
              case rel => exact ⟨k + 1, _, by omega, by omega, by omega, by go_num, XS.out, XO, XP, XT⟩
            · have hltz2 : ¬ (k : Int) < (i : Int) - 1 := by omega
              have HFIN := As.mk (ins_left HO.out H2.out (show a + 1 ≤ i by omega) hjb (by rw [show k + 1 = i by omega] at T2; exact T2.out) L1.out L2.out)
              have HDK := As.mk hdk
              clear hdk
              go_wp2_with fail
              ((try simp only [Exit.inBlock, Exit.then]); refine bodyPost_ret (results_none rfl _ _ _) rfl ?_)
              exact ⟨rfl, dk, S2.out, HDK.out, P2.out, HFIN.out⟩
    · have hb1 : (((m : Int) - a) == 1) = false := by rw [beq_eq_false_iff_ne]; omega
      by_cases hbm : b = m + 1
      · subst hbm
        have hb2 : (((m : Int) + 1 - m) == 1) = true := by rw [beq_iff_eq]; omega
        go_enter Tryz.func167, Tryz.ntmps167
        go_wp2_with fail
        go_loopg [14, 15, 16] (m - a) (fun kx s14 s15 _ wr => ∃ (i j : Nat), j - i ≤ kx ∧ a ≤ i ∧ i ≤ j ∧ j ≤ m ∧ s14 = .int .i64 i ∧ s15 = .int .i64 j ∧ As (SWK enc 2 w0 blk off d wr) ∧ As (∀ x, a ≤ x → x < i → ltOf cf d[m]! d[x]! = false) ∧ As (∀ x, j ≤ x → x < m → ltOf cf d[m]! d[x]! = true))
        case atStart => exact ⟨a, m, by omega, by omega, by omega, by omega, rfl, rfl, S0, ⟨fun x h1 h2 => by omega⟩, ⟨fun x h1 h2 => by omega⟩⟩
        case round =>
          obtain ⟨i, j, hk, hi, hij, hjb, rfl, rfl, S1, L1, L2⟩ := hrel
          by_cases hlt : i < j
          · have hltz : (i : Int) < (j : Int) := by omega
            obtain ⟨A1, n1, c1, m1, B1, k1, e1, l1, p0, p1, q0, q1, hcmp⟩ := pair_at HP.out HR.out HC.out hds m ((i + j) / 2) (by omega) (by omega) S1.out
            have HQ : As (ltOf cf d[m]! d[(i + j) / 2]! = decide (cf d[m]! d[(i + j) / 2]! < 0)) := ⟨rfl⟩
            generalize cf d[m]! d[(i + j) / 2]! = q at *
            by_cases hq : q < 0
            · have hqb : decide (q < 0) = true := decide_eq_true hq
              have HL : As (∀ x, (i + j) / 2 ≤ x → x < m → ltOf cf d[m]! d[x]! = true) := ⟨fun x h1 h2 => by
                cases hc : ltOf cf d[m]! d[x]! with
                | true => rfl
                | false =>
                  have := HO.out.ntrans _ _ _ hc (sorted_le HO.out H1.out (show a ≤ (i + j) / 2 by omega) h1 h2)
                  rw [HQ.out, decide_eq_true hq] at this; cases this⟩
              go_wp2_with fail
              (refine wp_region_quiet_grown (by assumption) (by kernel_rfl) ?_; (repeat (go_big_quiet_step ( (go_at_call 57; exact grown_ext (hcmp _ _)) ))); refine wpQuiet_nil ?_; intro _ hw'; obtain ⟨⟨nq, osq⟩, hw''⟩ := hw'; subst hw'')
              go_wp2_with fail
              go_roundg ((i + j) / 2 - i)
              case measure => omega
              case rel => exact ⟨i, (i + j) / 2, by omega, by omega, by omega, by omega, rfl, by go_num, ⟨S1.out.grown _ _⟩, L1, HL⟩
            · have hqb : decide (q < 0) = false := decide_eq_false hq
              have HL : As (∀ x, a ≤ x → x < (i + j) / 2 + 1 → ltOf cf d[m]! d[x]! = false) := ⟨fun x h1 h2 => by
                refine HO.out.ntrans _ _ _ ?_ (sorted_le HO.out H1.out h1 (show x ≤ (i + j) / 2 by omega) (by omega))
                rw [HQ.out, decide_eq_false hq]⟩
              go_wp2_with fail
              (refine wp_region_quiet_grown (by assumption) (by kernel_rfl) ?_; (repeat (go_big_quiet_step ( (go_at_call 57; exact grown_ext (hcmp _ _)) ))); refine wpQuiet_nil ?_; intro _ hw'; obtain ⟨⟨nq, osq⟩, hw''⟩ := hw'; subst hw'')
              go_wp2_with fail
              go_roundg (j - ((i + j) / 2 + 1))
              case measure => omega
              case rel => exact ⟨(i + j) / 2 + 1, j, by omega, by omega, by omega, by omega, by go_num, rfl, ⟨S1.out.grown _ _⟩, HL, L2⟩
          · obtain rfl : i = j := by omega
            have hltz : ¬ (i : Int) < (i : Int) := by omega
            generalize wr = wp at *
            go_wp2_with fail
            go_loopg [17] (m - i) (fun kx s17 wr => ∃ (k : Nat) (dk : Array α), k - i ≤ kx ∧ i ≤ k ∧ k ≤ m ∧ s17 = .int .i64 k ∧ dk.size = d0.size ∧ As (SWK enc 2 w0 blk off dk wr) ∧ As (PermIn a (m + 1) d dk) ∧ As (∀ x, dk[x]! = rotF (fun x => d[x]!) k m (m + 1) x))
            case atStart => exact ⟨m, d, by omega, by omega, by omega, rfl, hds, S1, ⟨permIn_refl _ _ _⟩, ⟨fun x => rot_id x⟩⟩
            case round =>
              obtain ⟨k, dk, hk2, hak, hki, rfl, hdk, S2, P2, T2⟩ := hrel
              by_cases hlt2 : i < k
              · obtain ⟨k, rfl⟩ : ∃ k', k = k' + 1 := ⟨k - 1, by omega⟩
                have hltz2 : (i : Int) < (k : Int) + 1 := by omega
                obtain ⟨A1, n1, c1, m1, B1, k1, d1, l1, X⟩ := exch HP.out S2.out HR.out hdk (k + 1) k (by omega) (by omega)
                have XO := As.mk X.out
                have XP := As.mk (permIn_trans _ _ _ _ _ P2.out (swp_permIn dk a (m + 1) (k + 1) k (by omega) (by omega) (by omega) (by omega) (by omega)))
                have XT := As.mk (rot_down T2.out hki (by omega))
                have XS := As.mk ((size_swp dk (k + 1) k).trans hdk)
                obtain ⟨a0, a1, b0, b1, f0, f1, g0, g1, _, _, _⟩ := X
                clear hdk
                go_wp2_with fail
                go_big_region_o
                go_wp2
                go_roundg (k - i)
                case measure => omega
                case rel => exact ⟨k, _, by omega, by omega, by omega, by go_num, XS.out, XO, XP, XT⟩
              · have hltz2 : ¬ (i : Int) < (k : Int) := by omega
                have HFIN := As.mk (ins_right HO.out H1.out hi hjb (by rw [show k = i by omega] at T2; exact T2.out) L1.out L2.out)
                have HDK := As.mk hdk
                clear hdk
                go_wp2_with fail
                ((try simp only [Exit.inBlock, Exit.then]); refine bodyPost_ret (results_none rfl _ _ _) rfl ?_)
                exact ⟨rfl, dk, S2.out, HDK.out, P2.out, HFIN.out⟩
      · have hb2 : (((b : Int) - m) == 1) = false := by rw [beq_eq_false_iff_ne]; omega
        obtain ⟨mid, hmid⟩ : ∃ mid, mid = (a + b) / 2 := ⟨_, rfl⟩
        have hmz : ((a : Int) + (b : Int)) / 2 = (mid : Int) := by omega
        have m1 : a < mid := by omega
        have m2 : mid < b := by omega
        have m3 : 2 * mid ≤ a + b := by omega
        have m4 : a + b ≤ 2 * mid + 1 := by omega
        have x1 : IntKind.i64.wrap ((mid : Int) + m) = (mid : Int) + m := by rw [IntKind.wrap_i64]; omega
        have x2 : IntKind.i64.wrap ((mid : Int) + m - 1) = (mid : Int) + m - 1 := by rw [IntKind.wrap_i64]; omega
        clear hmid
        by_cases hmm : mid < m
        · have hmmz : (mid : Int) < (m : Int) := by omega
          obtain ⟨s0, hs0⟩ : ∃ s0, s0 = mid + m - b := ⟨_, rfl⟩
          have hs0z : IntKind.i64.wrap ((mid : Int) + m - b) = (s0 : Int) := by rw [IntKind.wrap_i64]; omega
          have hq0 : a ≤ s0 ∧ s0 + b = mid + m ∧ s0 ≤ mid := by omega
          obtain ⟨y1, y2, y3⟩ := hq0
          clear hs0
          go_enter Tryz.func167, Tryz.ntmps167
          go_wp2_with fail
          go_loopg [20, 21, 23] (mid - s0) (fun kx s20 s21 _ wr => ∃ (s r : Nat), r - s ≤ kx ∧ s0 ≤ s ∧ s ≤ r ∧ r ≤ mid ∧ s20 = .int .i64 s ∧ s21 = .int .i64 r ∧ As (SWK enc 2 w0 blk off d wr) ∧ As (s = s0 ∨ (s0 < s ∧ ltOf cf d[mid + m - s]! d[s - 1]! = false)) ∧ As (r = mid ∨ (r < mid ∧ ltOf cf d[mid + m - r - 1]! d[r]! = true)))
          case atStart => exact ⟨s0, mid, by omega, by omega, by omega, by omega, by go_num, by go_num, S0, ⟨.inl rfl⟩, ⟨.inl rfl⟩⟩
          case round =>
            obtain ⟨s, r, hk, h0s, hsr, hmid, rfl, rfl, S1, L1, L2⟩ := hrel
            by_cases hlt : s < r
            · have hltz : (s : Int) < (r : Int) := by omega
              obtain ⟨c, hcdef⟩ : ∃ c, c = (s + r) / 2 := ⟨_, rfl⟩
              have hcz : ((s : Int) + (r : Int)) / 2 = (c : Int) := by omega
              obtain ⟨q, hqdef⟩ : ∃ q, q = mid + m - c - 1 := ⟨_, rfl⟩
              have hqz : IntKind.i64.wrap ((mid : Int) + (m : Int) - 1 - (c : Int)) = (q : Int) := by rw [IntKind.wrap_i64]; omega
              have hcb : (c : Int) < (d0.size : Int) := by omega
              have hqb' : (q : Int) < (d0.size : Int) := by omega
              obtain ⟨A1, n1, c1, m1, B1, k1, e1, l1, p0, p1, q0, q1, hcmp⟩ := pair_at HP.out HR.out HC.out hds q c (by omega) (by omega) S1.out
              have HQ : As (ltOf cf d[q]! d[c]! = decide (cf d[q]! d[c]! < 0)) := ⟨rfl⟩
              have HCD := As.mk hcdef
              have HQD := As.mk hqdef
              have hc1 : s ≤ c := by omega
              have hc2 : c < r := by omega
              clear hcdef hqdef
              generalize cf d[q]! d[c]! = u at *
              by_cases hq : u < 0
              · have hqb : decide (u < 0) = true := decide_eq_true hq
                have HL : As (c = mid ∨ (c < mid ∧ ltOf cf d[mid + m - c - 1]! d[c]! = true)) := ⟨.inr ⟨by omega, by rw [← HQD.out, HQ.out, hqb]⟩⟩
                go_wp2_with fail
                (refine wp_region_quiet_grown (by assumption) (by kernel_rfl) ?_; (repeat (go_big_quiet_step ( (go_at_call 57; exact grown_ext (hcmp _ _)) ))); refine wpQuiet_nil ?_; intro _ hw'; obtain ⟨⟨nq, osq⟩, hw''⟩ := hw'; subst hw'')
                go_wp2_with fail
                go_roundg (c - s)
                case measure => omega
                case rel => exact ⟨s, c, by omega, by omega, by omega, by omega, rfl, rfl, ⟨S1.out.grown _ _⟩, L1, HL⟩
              · have hqb : decide (u < 0) = false := decide_eq_false hq
                have HL : As (c + 1 = s0 ∨ (s0 < c + 1 ∧ ltOf cf d[mid + m - (c + 1)]! d[c + 1 - 1]! = false)) := ⟨.inr ⟨by omega, by rw [Nat.add_sub_cancel, show mid + m - (c + 1) = q by have := HQD.out; omega, HQ.out, hqb]⟩⟩
                go_wp2_with fail
                (refine wp_region_quiet_grown (by assumption) (by kernel_rfl) ?_; (repeat (go_big_quiet_step ( (go_at_call 57; exact grown_ext (hcmp _ _)) ))); refine wpQuiet_nil ?_; intro _ hw'; obtain ⟨⟨nq, osq⟩, hw''⟩ := hw'; subst hw'')
                go_wp2_with fail
                go_roundg (r - (c + 1))
                case measure => omega
                case rel => exact ⟨c + 1, r, by omega, by omega, by omega, by omega, by go_num, rfl, ⟨S1.out.grown _ _⟩, HL, L2⟩
            · obtain rfl : s = r := by omega
              have hltz : ¬ (s : Int) < (s : Int) := by omega
              obtain ⟨e, hedef⟩ : ∃ e, e = mid + m - s := ⟨_, rfl⟩
              have hez : IntKind.i64.wrap ((mid : Int) + (m : Int) - (s : Int)) = (e : Int) := by rw [IntKind.wrap_i64]; omega
              have hX := sym_cross (s := s) (e := e) (s0 := s0) (r0 := mid) HO.out H1.out H2.out (by omega) (by omega) (by omega) (by omega) (by omega) (by omega) (by rw [hedef]; exact L1.out) (by rw [hedef]; exact L2.out)
              have HA := As.mk hX.1
              have HB := As.mk hX.2
              have hms : s + (e - m) = mid := by omega
              have os1 : a ≤ s := by omega
              have os2 : s ≤ m := by omega
              have oe1 : m ≤ e := by omega
              have oe2 : e ≤ b := by omega
              have os3 : s ≤ mid := by omega
              have oe3 : mid ≤ e := by omega
              have hee : e + s = mid + m := by omega
              have HMS := As.mk hms
              clear hX hedef hms
              have hcase : (s < mid ∧ a < s ∧ e < b) ∨ (s < mid ∧ a < s ∧ b ≤ e) ∨ (s < mid ∧ s ≤ a ∧ e < b) ∨ (s < mid ∧ s ≤ a ∧ b ≤ e) ∨ mid ≤ s := by omega
              rcases hcase with ⟨c1, c2, c3⟩ | ⟨c1, c2, c3⟩ | ⟨c1, c2, c3⟩ | ⟨c1, c2, c3⟩ | c1
              · have g1 : (s : Int) < (m : Int) := by omega
                have g2 : (m : Int) < (e : Int) := by omega
                have g3 : (a : Int) < (s : Int) := by omega
                have g4 : (s : Int) < (mid : Int) := by omega
                have g5 : (mid : Int) < (e : Int) := by omega
                have g6 : (e : Int) < (b : Int) := by omega
                have hc := rotate_any HP.out HR.out cap s m e 57 d wr hds.symm S1.out (by omega) (by omega) (by omega) (by omega)
                rw [hds] at hc
                go_wp2_with fail
                refine hc.mono ?_
                rintro e3 w3 ⟨rfl, d1, hS, hz, hp, hT⟩
                have S2 := As.mk hS
                have Z2 := As.mk hz
                have P2 := As.mk (permIn_mono _ _ _ _ a b os1 oe2 (by omega) hp)
                have T2 := As.mk hT
                clear hS hz hp hT hc
                have HH := As.mk (sym_halves H1.out H2.out os1 os2 oe1 oe2 T2.out HA.out HB.out)
                rw [HMS.out] at HH
                have hc := IH.out a s mid d1 w3 (by omega) Z2.out S2.out (by omega) (by omega) (by have := Z2.out; omega) HH.out.1 HH.out.2.1
                go_wp2_with fail
                refine hc.mono ?_
                rintro e4 w4 ⟨rfl, d2, hS, hz, hp, hs⟩
                have S3 := As.mk hS
                have Z3 := As.mk hz
                have P3 := As.mk hp
                have O3 := As.mk hs
                clear hS hz hp hs hc
                have q1 : SortedIn (ltOf cf) mid e d2 := fun i j hi hij hj => by rw [P3.out.2.1 i (.inr hi), P3.out.2.1 j (.inr (by omega))]; exact HH.out.2.2.1 i j hi hij hj
                have q2 : SortedIn (ltOf cf) e b d2 := fun i j hi hij hj => by rw [P3.out.2.1 i (.inr (by omega)), P3.out.2.1 j (.inr (by omega))]; exact HH.out.2.2.2.1 i j hi hij hj
                have hc := IH.out mid e b d2 w4 (by omega) Z3.out S3.out (by omega) (by omega) (by have := Z3.out; omega) q1 q2
                clear q1 q2
                go_wp2_with fail
                refine hc.mono ?_
                rintro e5 w5 ⟨rfl, d3, hS, hz, hp, hs⟩
                have S4 := As.mk hS
                have Z4 := As.mk hz
                have P4 := As.mk hp
                have O4 := As.mk hs
                clear hS hz hp hs hc
                have HJ := As.mk (sym_join (by omega) (by omega) (by omega) P2.out HH.out.2.2.2.2 P3.out O3.out P4.out O4.out)
                go_wp2_with fail
                go_end0
                exact ⟨rfl, d3, S4.out, Z4.out, HJ.out.1, HJ.out.2⟩
              · have g1 : (s : Int) < (m : Int) := by omega
                have g2 : (m : Int) < (e : Int) := by omega
                have g3 : (a : Int) < (s : Int) := by omega
                have g4 : (s : Int) < (mid : Int) := by omega
                have g5 : (mid : Int) < (e : Int) := by omega
                have g6 : ¬ (e : Int) < (b : Int) := by omega
                have hc := rotate_any HP.out HR.out cap s m e 57 d wr hds.symm S1.out (by omega) (by omega) (by omega) (by omega)
                rw [hds] at hc
                go_wp2_with fail
                refine hc.mono ?_
                rintro e3 w3 ⟨rfl, d1, hS, hz, hp, hT⟩
                have S2 := As.mk hS
                have Z2 := As.mk hz
                have P2 := As.mk (permIn_mono _ _ _ _ a b os1 oe2 (by omega) hp)
                have T2 := As.mk hT
                clear hS hz hp hT hc
                have HH := As.mk (sym_halves H1.out H2.out os1 os2 oe1 oe2 T2.out HA.out HB.out)
                rw [HMS.out] at HH
                have hc := IH.out a s mid d1 w3 (by omega) Z2.out S2.out (by omega) (by omega) (by have := Z2.out; omega) HH.out.1 HH.out.2.1
                go_wp2_with fail
                refine hc.mono ?_
                rintro e4 w4 ⟨rfl, d2, hS, hz, hp, hs⟩
                have S3 := As.mk hS
                have Z3 := As.mk hz
                have P3 := As.mk hp
                have O3 := As.mk hs
                clear hS hz hp hs hc
                obtain ⟨d3, hd3⟩ : ∃ d3, d3 = d2 := ⟨_, rfl⟩
                have S4 : As (SWK enc 2 w0 blk off d3 w4) := ⟨hd3 ▸ S3.out⟩
                have Z4 : As (d3.size = d0.size) := ⟨by rw [hd3]; exact Z3.out⟩
                have P4 : As (PermIn mid b d2 d3) := ⟨by rw [hd3]; exact permIn_refl _ _ _⟩
                have O4 : As (SortedIn (ltOf cf) mid b d3) := ⟨fun i j hi hij hj => by rw [hd3, P3.out.2.1 i (.inr hi), P3.out.2.1 j (.inr (by omega))]; exact HH.out.2.2.1 i j hi hij (by omega)⟩
                clear hd3
                have HJ := As.mk (sym_join (by omega) (by omega) (by omega) P2.out HH.out.2.2.2.2 P3.out O3.out P4.out O4.out)
                go_wp2_with fail
                go_end0
                exact ⟨rfl, d3, S4.out, Z4.out, HJ.out.1, HJ.out.2⟩
              · exfalso
                omega
              · have g1 : (s : Int) < (m : Int) := by omega
                have g2 : (m : Int) < (e : Int) := by omega
                have g3 : ¬ (a : Int) < (s : Int) := by omega
                have g5 : (mid : Int) < (e : Int) := by omega
                have g6 : ¬ (e : Int) < (b : Int) := by omega
                have hc := rotate_any HP.out HR.out cap s m e 57 d wr hds.symm S1.out (by omega) (by omega) (by omega) (by omega)
                rw [hds] at hc
                go_wp2_with fail
                refine hc.mono ?_
                rintro e3 w3 ⟨rfl, d1, hS, hz, hp, hT⟩
                have S2 := As.mk hS
                have Z2 := As.mk hz
                have P2 := As.mk (permIn_mono _ _ _ _ a b os1 oe2 (by omega) hp)
                have T2 := As.mk hT
                clear hS hz hp hT hc
                have HH := As.mk (sym_halves H1.out H2.out os1 os2 oe1 oe2 T2.out HA.out HB.out)
                rw [HMS.out] at HH
                obtain ⟨d2, hd2⟩ : ∃ d2, d2 = d1 := ⟨_, rfl⟩
                have S3 : As (SWK enc 2 w0 blk off d2 w3) := ⟨hd2 ▸ S2.out⟩
                have Z3 : As (d2.size = d0.size) := ⟨by rw [hd2]; exact Z2.out⟩
                have P3 : As (PermIn a mid d1 d2) := ⟨by rw [hd2]; exact permIn_refl _ _ _⟩
                have O3 : As (SortedIn (ltOf cf) a mid d2) := ⟨by rw [hd2, show a = s by omega]; exact HH.out.2.1⟩
                clear hd2
                obtain ⟨d3, hd3⟩ : ∃ d3, d3 = d2 := ⟨_, rfl⟩
                have S4 : As (SWK enc 2 w0 blk off d3 w3) := ⟨hd3 ▸ S3.out⟩
                have Z4 : As (d3.size = d0.size) := ⟨by rw [hd3]; exact Z3.out⟩
                have P4 : As (PermIn mid b d2 d3) := ⟨by rw [hd3]; exact permIn_refl _ _ _⟩
                have O4 : As (SortedIn (ltOf cf) mid b d3) := ⟨fun i j hi hij hj => by rw [hd3, P3.out.2.1 i (.inr hi), P3.out.2.1 j (.inr (by omega))]; exact HH.out.2.2.1 i j hi hij (by omega)⟩
                clear hd3
                have HJ := As.mk (sym_join (by omega) (by omega) (by omega) P2.out HH.out.2.2.2.2 P3.out O3.out P4.out O4.out)
                go_wp2_with fail
                go_end0
                exact ⟨rfl, d3, S4.out, Z4.out, HJ.out.1, HJ.out.2⟩
              · have g1 : (s : Int) < (m : Int) := by omega
                have g2 : ¬ (m : Int) < (e : Int) := by omega
                have g3 : (a : Int) < (s : Int) := by omega
                have g4 : ¬ (s : Int) < (mid : Int) := by omega
                have g5 : (mid : Int) < (e : Int) := by omega
                have g6 : (e : Int) < (b : Int) := by omega
                obtain ⟨d1, hd1⟩ : ∃ d1, d1 = d := ⟨_, rfl⟩
                have S2 : As (SWK enc 2 w0 blk off d1 wr) := ⟨hd1 ▸ S1.out⟩
                have Z2 : As (d1.size = d0.size) := ⟨by rw [hd1]; exact hds⟩
                have P2 : As (PermIn a b d d1) := ⟨by rw [hd1]; exact permIn_refl _ _ _⟩
                have T2 : As (∀ k, d1[k]! = rotF (fun k => d[k]!) s m e k) := ⟨fun k => by rw [hd1, show e = m by omega]; exact rot_id2 k⟩
                clear hd1
                have HH := As.mk (sym_halves H1.out H2.out os1 os2 oe1 oe2 T2.out HA.out HB.out)
                rw [HMS.out] at HH
                obtain ⟨d2, hd2⟩ : ∃ d2, d2 = d1 := ⟨_, rfl⟩
                have S3 : As (SWK enc 2 w0 blk off d2 wr) := ⟨hd2 ▸ S2.out⟩
                have Z3 : As (d2.size = d0.size) := ⟨by rw [hd2]; exact Z2.out⟩
                have P3 : As (PermIn a mid d1 d2) := ⟨by rw [hd2]; exact permIn_refl _ _ _⟩
                have O3 : As (SortedIn (ltOf cf) a mid d2) := ⟨by rw [hd2, show mid = s by omega]; exact HH.out.1⟩
                clear hd2
                have q1 : SortedIn (ltOf cf) mid e d2 := fun i j hi hij hj => by rw [P3.out.2.1 i (.inr hi), P3.out.2.1 j (.inr (by omega))]; exact HH.out.2.2.1 i j hi hij hj
                have q2 : SortedIn (ltOf cf) e b d2 := fun i j hi hij hj => by rw [P3.out.2.1 i (.inr (by omega)), P3.out.2.1 j (.inr (by omega))]; exact HH.out.2.2.2.1 i j hi hij hj
                have hc := IH.out mid e b d2 wr (by omega) Z3.out S3.out (by omega) (by omega) (by have := Z3.out; omega) q1 q2
                clear q1 q2
                go_wp2_with fail
                refine hc.mono ?_
                rintro e5 w5 ⟨rfl, d3, hS, hz, hp, hs⟩
                have S4 := As.mk hS
                have Z4 := As.mk hz
                have P4 := As.mk hp
                have O4 := As.mk hs
                clear hS hz hp hs hc
                have HJ := As.mk (sym_join (by omega) (by omega) (by omega) P2.out HH.out.2.2.2.2 P3.out O3.out P4.out O4.out)
                go_wp2_with fail
                go_end0
                exact ⟨rfl, d3, S4.out, Z4.out, HJ.out.1, HJ.out.2⟩
        · have hmmz : ¬ (mid : Int) < (m : Int) := by omega
          go_enter Tryz.func167, Tryz.ntmps167
          go_wp2_with fail
          go_loopg [20, 21, 23] (m - a) (fun kx s20 s21 _ wr => ∃ (s r : Nat), r - s ≤ kx ∧ a ≤ s ∧ s ≤ r ∧ r ≤ m ∧ s20 = .int .i64 s ∧ s21 = .int .i64 r ∧ As (SWK enc 2 w0 blk off d wr) ∧ As (s = a ∨ (a < s ∧ ltOf cf d[mid + m - s]! d[s - 1]! = false)) ∧ As (r = m ∨ (r < m ∧ ltOf cf d[mid + m - r - 1]! d[r]! = true)))
          case atStart => exact ⟨a, m, by omega, by omega, by omega, by omega, by go_num, by go_num, S0, ⟨.inl rfl⟩, ⟨.inl rfl⟩⟩
          case round =>
            obtain ⟨s, r, hk, h0s, hsr, hm, rfl, rfl, S1, L1, L2⟩ := hrel
            by_cases hlt : s < r
            · have hltz : (s : Int) < (r : Int) := by omega
              obtain ⟨c, hcdef⟩ : ∃ c, c = (s + r) / 2 := ⟨_, rfl⟩
              have hcz : ((s : Int) + (r : Int)) / 2 = (c : Int) := by omega
              obtain ⟨q, hqdef⟩ : ∃ q, q = mid + m - c - 1 := ⟨_, rfl⟩
              have hqz : IntKind.i64.wrap ((mid : Int) + (m : Int) - 1 - (c : Int)) = (q : Int) := by rw [IntKind.wrap_i64]; omega
              have hcb : (c : Int) < (d0.size : Int) := by omega
              have hqb' : (q : Int) < (d0.size : Int) := by omega
              obtain ⟨A1, n1, c1, m1, B1, k1, e1, l1, p0, p1, q0, q1, hcmp⟩ := pair_at HP.out HR.out HC.out hds q c (by omega) (by omega) S1.out
              have HQ : As (ltOf cf d[q]! d[c]! = decide (cf d[q]! d[c]! < 0)) := ⟨rfl⟩
              have HCD := As.mk hcdef
              have HQD := As.mk hqdef
              have hc1 : s ≤ c := by omega
              have hc2 : c < r := by omega
              clear hcdef hqdef
              generalize cf d[q]! d[c]! = u at *
              by_cases hq : u < 0
              · have hqb : decide (u < 0) = true := decide_eq_true hq
                have HL : As (c = m ∨ (c < m ∧ ltOf cf d[mid + m - c - 1]! d[c]! = true)) := ⟨.inr ⟨by omega, by rw [← HQD.out, HQ.out, hqb]⟩⟩
                go_wp2_with fail
                (refine wp_region_quiet_grown (by assumption) (by kernel_rfl) ?_; (repeat (go_big_quiet_step ( (go_at_call 57; exact grown_ext (hcmp _ _)) ))); refine wpQuiet_nil ?_; intro _ hw'; obtain ⟨⟨nq, osq⟩, hw''⟩ := hw'; subst hw'')
                go_wp2_with fail
                go_roundg (c - s)
                case measure => omega
                case rel => exact ⟨s, c, by omega, by omega, by omega, by omega, rfl, rfl, ⟨S1.out.grown _ _⟩, L1, HL⟩
              · have hqb : decide (u < 0) = false := decide_eq_false hq
                have HL : As (c + 1 = a ∨ (a < c + 1 ∧ ltOf cf d[mid + m - (c + 1)]! d[c + 1 - 1]! = false)) := ⟨.inr ⟨by omega, by rw [Nat.add_sub_cancel, show mid + m - (c + 1) = q by have := HQD.out; omega, HQ.out, hqb]⟩⟩
                go_wp2_with fail
                (refine wp_region_quiet_grown (by assumption) (by kernel_rfl) ?_; (repeat (go_big_quiet_step ( (go_at_call 57; exact grown_ext (hcmp _ _)) ))); refine wpQuiet_nil ?_; intro _ hw'; obtain ⟨⟨nq, osq⟩, hw''⟩ := hw'; subst hw'')
                go_wp2_with fail
                go_roundg (r - (c + 1))
                case measure => omega
                case rel => exact ⟨c + 1, r, by omega, by omega, by omega, by omega, by go_num, rfl, ⟨S1.out.grown _ _⟩, HL, L2⟩
            · obtain rfl : s = r := by omega
              have hltz : ¬ (s : Int) < (s : Int) := by omega
              obtain ⟨e, hedef⟩ : ∃ e, e = mid + m - s := ⟨_, rfl⟩
              have hez : IntKind.i64.wrap ((mid : Int) + (m : Int) - (s : Int)) = (e : Int) := by rw [IntKind.wrap_i64]; omega
              have hX := sym_cross (s := s) (e := e) (s0 := a) (r0 := m) HO.out H1.out H2.out (by omega) (by omega) (by omega) (by omega) (by omega) (by omega) (by rw [hedef]; exact L1.out) (by rw [hedef]; exact L2.out)
              have HA := As.mk hX.1
              have HB := As.mk hX.2
              have hms : s + (e - m) = mid := by omega
              have os1 : a ≤ s := by omega
              have os2 : s ≤ m := by omega
              have oe1 : m ≤ e := by omega
              have oe2 : e ≤ b := by omega
              have os3 : s ≤ mid := by omega
              have oe3 : mid ≤ e := by omega
              have hee : e + s = mid + m := by omega
              have HMS := As.mk hms
              clear hX hedef hms
              have hcase : (s < m ∧ a < s ∧ e < b) ∨ (s < m ∧ a < s ∧ b ≤ e) ∨ (s < m ∧ s ≤ a ∧ e < b) ∨ (s < m ∧ s ≤ a ∧ b ≤ e) ∨ (m ≤ s ∧ m < mid) ∨ (m ≤ s ∧ mid ≤ m) := by omega
              rcases hcase with ⟨c1, c2, c3⟩ | ⟨c1, c2, c3⟩ | ⟨c1, c2, c3⟩ | ⟨c1, c2, c3⟩ | ⟨c1, c2⟩ | ⟨c1, c2⟩
              · have g1 : (s : Int) < (m : Int) := by omega
                have g2 : (m : Int) < (e : Int) := by omega
                have g3 : (a : Int) < (s : Int) := by omega
                have g4 : (s : Int) < (mid : Int) := by omega
                have g5 : (mid : Int) < (e : Int) := by omega
                have g6 : (e : Int) < (b : Int) := by omega
                have hc := rotate_any HP.out HR.out cap s m e 57 d wr hds.symm S1.out (by omega) (by omega) (by omega) (by omega)
                rw [hds] at hc
                go_wp2_with fail
                refine hc.mono ?_
                rintro e3 w3 ⟨rfl, d1, hS, hz, hp, hT⟩
                have S2 := As.mk hS
                have Z2 := As.mk hz
                have P2 := As.mk (permIn_mono _ _ _ _ a b os1 oe2 (by omega) hp)
                have T2 := As.mk hT
                clear hS hz hp hT hc
                have HH := As.mk (sym_halves H1.out H2.out os1 os2 oe1 oe2 T2.out HA.out HB.out)
                rw [HMS.out] at HH
                have hc := IH.out a s mid d1 w3 (by omega) Z2.out S2.out (by omega) (by omega) (by have := Z2.out; omega) HH.out.1 HH.out.2.1
                go_wp2_with fail
                refine hc.mono ?_
                rintro e4 w4 ⟨rfl, d2, hS, hz, hp, hs⟩
                have S3 := As.mk hS
                have Z3 := As.mk hz
                have P3 := As.mk hp
                have O3 := As.mk hs
                clear hS hz hp hs hc
                have q1 : SortedIn (ltOf cf) mid e d2 := fun i j hi hij hj => by rw [P3.out.2.1 i (.inr hi), P3.out.2.1 j (.inr (by omega))]; exact HH.out.2.2.1 i j hi hij hj
                have q2 : SortedIn (ltOf cf) e b d2 := fun i j hi hij hj => by rw [P3.out.2.1 i (.inr (by omega)), P3.out.2.1 j (.inr (by omega))]; exact HH.out.2.2.2.1 i j hi hij hj
                have hc := IH.out mid e b d2 w4 (by omega) Z3.out S3.out (by omega) (by omega) (by have := Z3.out; omega) q1 q2
                clear q1 q2
                go_wp2_with fail
                refine hc.mono ?_
                rintro e5 w5 ⟨rfl, d3, hS, hz, hp, hs⟩
                have S4 := As.mk hS
                have Z4 := As.mk hz
                have P4 := As.mk hp
                have O4 := As.mk hs
                clear hS hz hp hs hc
                have HJ := As.mk (sym_join (by omega) (by omega) (by omega) P2.out HH.out.2.2.2.2 P3.out O3.out P4.out O4.out)
                go_wp2_with fail
                go_end0
                exact ⟨rfl, d3, S4.out, Z4.out, HJ.out.1, HJ.out.2⟩
              · exfalso
                omega
              · have g1 : (s : Int) < (m : Int) := by omega
                have g2 : (m : Int) < (e : Int) := by omega
                have g3 : ¬ (a : Int) < (s : Int) := by omega
                have g5 : (mid : Int) < (e : Int) := by omega
                have g6 : (e : Int) < (b : Int) := by omega
                have hc := rotate_any HP.out HR.out cap s m e 57 d wr hds.symm S1.out (by omega) (by omega) (by omega) (by omega)
                rw [hds] at hc
                go_wp2_with fail
                refine hc.mono ?_
                rintro e3 w3 ⟨rfl, d1, hS, hz, hp, hT⟩
                have S2 := As.mk hS
                have Z2 := As.mk hz
                have P2 := As.mk (permIn_mono _ _ _ _ a b os1 oe2 (by omega) hp)
                have T2 := As.mk hT
                clear hS hz hp hT hc
                have HH := As.mk (sym_halves H1.out H2.out os1 os2 oe1 oe2 T2.out HA.out HB.out)
                rw [HMS.out] at HH
                obtain ⟨d2, hd2⟩ : ∃ d2, d2 = d1 := ⟨_, rfl⟩
                have S3 : As (SWK enc 2 w0 blk off d2 w3) := ⟨hd2 ▸ S2.out⟩
                have Z3 : As (d2.size = d0.size) := ⟨by rw [hd2]; exact Z2.out⟩
                have P3 : As (PermIn a mid d1 d2) := ⟨by rw [hd2]; exact permIn_refl _ _ _⟩
                have O3 : As (SortedIn (ltOf cf) a mid d2) := ⟨by rw [hd2, show a = s by omega]; exact HH.out.2.1⟩
                clear hd2
                have q1 : SortedIn (ltOf cf) mid e d2 := fun i j hi hij hj => by rw [P3.out.2.1 i (.inr hi), P3.out.2.1 j (.inr (by omega))]; exact HH.out.2.2.1 i j hi hij hj
                have q2 : SortedIn (ltOf cf) e b d2 := fun i j hi hij hj => by rw [P3.out.2.1 i (.inr (by omega)), P3.out.2.1 j (.inr (by omega))]; exact HH.out.2.2.2.1 i j hi hij hj
                have hc := IH.out mid e b d2 w3 (by omega) Z3.out S3.out (by omega) (by omega) (by have := Z3.out; omega) q1 q2
                clear q1 q2
                go_wp2_with fail
                refine hc.mono ?_
                rintro e5 w5 ⟨rfl, d3, hS, hz, hp, hs⟩
                have S4 := As.mk hS
                have Z4 := As.mk hz
                have P4 := As.mk hp
                have O4 := As.mk hs
                clear hS hz hp hs hc
                have HJ := As.mk (sym_join (by omega) (by omega) (by omega) P2.out HH.out.2.2.2.2 P3.out O3.out P4.out O4.out)
                go_wp2_with fail
                go_end0
                exact ⟨rfl, d3, S4.out, Z4.out, HJ.out.1, HJ.out.2⟩
              · have g1 : (s : Int) < (m : Int) := by omega
                have g2 : (m : Int) < (e : Int) := by omega
                have g3 : ¬ (a : Int) < (s : Int) := by omega
                have g5 : (mid : Int) < (e : Int) := by omega
                have g6 : ¬ (e : Int) < (b : Int) := by omega
                have hc := rotate_any HP.out HR.out cap s m e 57 d wr hds.symm S1.out (by omega) (by omega) (by omega) (by omega)
                rw [hds] at hc
                go_wp2_with fail
                refine hc.mono ?_
                rintro e3 w3 ⟨rfl, d1, hS, hz, hp, hT⟩
                have S2 := As.mk hS
                have Z2 := As.mk hz
                have P2 := As.mk (permIn_mono _ _ _ _ a b os1 oe2 (by omega) hp)
                have T2 := As.mk hT
                clear hS hz hp hT hc
                have HH := As.mk (sym_halves H1.out H2.out os1 os2 oe1 oe2 T2.out HA.out HB.out)
                rw [HMS.out] at HH
                obtain ⟨d2, hd2⟩ : ∃ d2, d2 = d1 := ⟨_, rfl⟩
                have S3 : As (SWK enc 2 w0 blk off d2 w3) := ⟨hd2 ▸ S2.out⟩
                have Z3 : As (d2.size = d0.size) := ⟨by rw [hd2]; exact Z2.out⟩
                have P3 : As (PermIn a mid d1 d2) := ⟨by rw [hd2]; exact permIn_refl _ _ _⟩
                have O3 : As (SortedIn (ltOf cf) a mid d2) := ⟨by rw [hd2, show a = s by omega]; exact HH.out.2.1⟩
                clear hd2
                obtain ⟨d3, hd3⟩ : ∃ d3, d3 = d2 := ⟨_, rfl⟩
                have S4 : As (SWK enc 2 w0 blk off d3 w3) := ⟨hd3 ▸ S3.out⟩
                have Z4 : As (d3.size = d0.size) := ⟨by rw [hd3]; exact Z3.out⟩
                have P4 : As (PermIn mid b d2 d3) := ⟨by rw [hd3]; exact permIn_refl _ _ _⟩
                have O4 : As (SortedIn (ltOf cf) mid b d3) := ⟨fun i j hi hij hj => by rw [hd3, P3.out.2.1 i (.inr hi), P3.out.2.1 j (.inr (by omega))]; exact HH.out.2.2.1 i j hi hij (by omega)⟩
                clear hd3
                have HJ := As.mk (sym_join (by omega) (by omega) (by omega) P2.out HH.out.2.2.2.2 P3.out O3.out P4.out O4.out)
                go_wp2_with fail
                go_end0
                exact ⟨rfl, d3, S4.out, Z4.out, HJ.out.1, HJ.out.2⟩
              · have g1 : ¬ (s : Int) < (m : Int) := by omega
                have g3 : (a : Int) < (s : Int) := by omega
                have g4 : (s : Int) < (mid : Int) := by omega
                have g5 : ¬ (mid : Int) < (e : Int) := by omega
                obtain ⟨d1, hd1⟩ : ∃ d1, d1 = d := ⟨_, rfl⟩
                have S2 : As (SWK enc 2 w0 blk off d1 wr) := ⟨hd1 ▸ S1.out⟩
                have Z2 : As (d1.size = d0.size) := ⟨by rw [hd1]; exact hds⟩
                have P2 : As (PermIn a b d d1) := ⟨by rw [hd1]; exact permIn_refl _ _ _⟩
                have T2 : As (∀ k, d1[k]! = rotF (fun k => d[k]!) s m e k) := ⟨fun k => by rw [hd1, show s = m by omega]; exact rot_id k⟩
                clear hd1
                have HH := As.mk (sym_halves H1.out H2.out os1 os2 oe1 oe2 T2.out HA.out HB.out)
                rw [HMS.out] at HH
                have hc := IH.out a s mid d1 wr (by omega) Z2.out S2.out (by omega) (by omega) (by have := Z2.out; omega) HH.out.1 HH.out.2.1
                go_wp2_with fail
                refine hc.mono ?_
                rintro e4 w4 ⟨rfl, d2, hS, hz, hp, hs⟩
                have S3 := As.mk hS
                have Z3 := As.mk hz
                have P3 := As.mk hp
                have O3 := As.mk hs
                clear hS hz hp hs hc
                obtain ⟨d3, hd3⟩ : ∃ d3, d3 = d2 := ⟨_, rfl⟩
                have S4 : As (SWK enc 2 w0 blk off d3 w4) := ⟨hd3 ▸ S3.out⟩
                have Z4 : As (d3.size = d0.size) := ⟨by rw [hd3]; exact Z3.out⟩
                have P4 : As (PermIn mid b d2 d3) := ⟨by rw [hd3]; exact permIn_refl _ _ _⟩
                have O4 : As (SortedIn (ltOf cf) mid b d3) := ⟨fun i j hi hij hj => by rw [hd3, P3.out.2.1 i (.inr hi), P3.out.2.1 j (.inr (by omega))]; exact HH.out.2.2.2.1 i j (by omega) hij hj⟩
                clear hd3
                have HJ := As.mk (sym_join (by omega) (by omega) (by omega) P2.out HH.out.2.2.2.2 P3.out O3.out P4.out O4.out)
                go_wp2_with fail
                go_end0
                exact ⟨rfl, d3, S4.out, Z4.out, HJ.out.1, HJ.out.2⟩
              · have g1 : ¬ (s : Int) < (m : Int) := by omega
                have g3 : (a : Int) < (s : Int) := by omega
                have g4 : ¬ (s : Int) < (mid : Int) := by omega
                have g5 : ¬ (mid : Int) < (e : Int) := by omega
                obtain ⟨d1, hd1⟩ : ∃ d1, d1 = d := ⟨_, rfl⟩
                have S2 : As (SWK enc 2 w0 blk off d1 wr) := ⟨hd1 ▸ S1.out⟩
                have Z2 : As (d1.size = d0.size) := ⟨by rw [hd1]; exact hds⟩
                have P2 : As (PermIn a b d d1) := ⟨by rw [hd1]; exact permIn_refl _ _ _⟩
                have T2 : As (∀ k, d1[k]! = rotF (fun k => d[k]!) s m e k) := ⟨fun k => by rw [hd1, show s = m by omega]; exact rot_id k⟩
                clear hd1
                have HH := As.mk (sym_halves H1.out H2.out os1 os2 oe1 oe2 T2.out HA.out HB.out)
                rw [HMS.out] at HH
                obtain ⟨d2, hd2⟩ : ∃ d2, d2 = d1 := ⟨_, rfl⟩
                have S3 : As (SWK enc 2 w0 blk off d2 wr) := ⟨hd2 ▸ S2.out⟩
                have Z3 : As (d2.size = d0.size) := ⟨by rw [hd2]; exact Z2.out⟩
                have P3 : As (PermIn a mid d1 d2) := ⟨by rw [hd2]; exact permIn_refl _ _ _⟩
                have O3 : As (SortedIn (ltOf cf) a mid d2) := ⟨by rw [hd2, show mid = s by omega]; exact HH.out.1⟩
                clear hd2
                obtain ⟨d3, hd3⟩ : ∃ d3, d3 = d2 := ⟨_, rfl⟩
                have S4 : As (SWK enc 2 w0 blk off d3 wr) := ⟨hd3 ▸ S3.out⟩
                have Z4 : As (d3.size = d0.size) := ⟨by rw [hd3]; exact Z3.out⟩
                have P4 : As (PermIn mid b d2 d3) := ⟨by rw [hd3]; exact permIn_refl _ _ _⟩
                have O4 : As (SortedIn (ltOf cf) mid b d3) := ⟨fun i j hi hij hj => by rw [hd3, P3.out.2.1 i (.inr hi), P3.out.2.1 j (.inr (by omega))]; exact HH.out.2.2.2.1 i j (by omega) hij hj⟩
                clear hd3
                have HJ := As.mk (sym_join (by omega) (by omega) (by omega) P2.out HH.out.2.2.2.2 P3.out O3.out P4.out O4.out)
                go_wp2_with fail
                go_end0
                exact ⟨rfl, d3, S4.out, Z4.out, HJ.out.1, HJ.out.2⟩
end
end Go.Proofs.YtflckpfpgpfjlaaGreatDoor
