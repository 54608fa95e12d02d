/- The walk of the stable sort of entries as a whole. The walk of slices.SortStableFunc at entries, over a call's own slice. -/
import Derived.Test.YtflckpfpgpfjlaaGreatDoorMStabM
set_option linter.unusedVariables false
set_option linter.unusedSimpArgs false
section
namespace Go.Proofs.YtflckpfpgpfjlaaGreatDoor
open Go.RowKit Go.Sort Go.Shelf Go.Lib
section
variable {α : Type} [Inhabited α] {enc : α → List Value} {w0 : World} {blk off : Nat} {d0 : Array α} {cf : α → α → Int}
theorem ins_any (hP : Pairs enc) (R : RowK enc 2 w0 blk off d0) (hC : CmpLays Tryz.prog 57 #[] enc 2 cf blk off d0.size w0) (hO : SWO (ltOf cf)) (cap : Nat) (hsz : d0.size < 4611686018427387904) (a b : Nat) (d : Array α) (w : World) (hds : d.size = d0.size) (S : SWK enc 2 w0 blk off d w) (hab : a ≤ b) (hb : b ≤ d.size) :
    Calls Tryz.prog 166 #[.slice (some ⟨blk, off, none⟩) d0.size cap, .int .i64 a, .int .i64 b, .func (.func 57) #[] #[]] w fun e w' => e = .returned (.tuple #[]) ∧
      ∃ d', SWK enc 2 w0 blk off d' w' ∧ d'.size = d0.size ∧ PermIn a b d d' ∧ SortedIn (ltOf cf) a b d' := by
  have hC2 : CmpLays Tryz.prog 57 #[] enc 2 cf blk off d.size w := by
    intro m os dk hdk x y
    obtain ⟨n0, os0, rfl⟩ := S
    rw [sortWorldK_on enc 2 w0 blk off n0 m d dk os0 os R.hblk hdk]
    exact hC _ _ dk (hdk.trans hds) x y
  have hH := S.holds R.hblk R.hH hds
  have h := AnyQ.insertionSortCmpFunc (P := Tryz.prog) (ρ := Tryz.pdqEntries_ren) { Tryz.pdqEntries with } 2 (fun w => Tryz.isAgg66 w) (fun w => Tryz.sizeOf66 w) enc R.hk R.h1 cf 57 #[] blk off cap a b d w (fun args w => (enters_of Tryz.func57 (by kernel_rfl) rfl) args w) hC2 hH (S.lt R.hblk) hab hb (by omega)
  obtain ⟨hp, hs⟩ := insertionSort_holds (lt := ltOf cf) hO d a b hab hb
  rw [hds] at h
  refine h.mono fun e w' ⟨he, n, os, hw⟩ => ⟨he, _, ?_, hp.1.trans hds, hp, hs⟩
  rw [hw]
  exact S.on R.hblk n _ os hp.1
variable {lt : α → α → Bool}
theorem SortedIn.keep {x y : Nat} {d d' : Array α} (h : SortedIn lt x y d) (e : ∀ i, x ≤ i → i < y → d'[i]! = d[i]!) : SortedIn lt x y d' := fun i j hi hij hj => by rw [e i hi (by omega), e j (by omega) hj]; exact h i j hi hij hj
/-- Each run of bs places is sorted. -/
def Runs (lt : α → α → Bool) (bs n : Nat) (d : Array α) : Prop := ∀ k y, y ≤ k * bs + bs → y ≤ n → SortedIn lt (k * bs) y d
/-- Of the first q double runs each is sorted; from a on the runs are as they were. -/
structure Half (lt : α → α → Bool) (bs n q a : Nat) (d : Array α) : Prop where
  at_ : a = q * (2 * bs)
  done : ∀ k y, k < q → y ≤ k * (2 * bs) + 2 * bs → SortedIn lt (k * (2 * bs)) y d
  rest : ∀ k y, y ≤ a + k * bs + bs → y ≤ n → SortedIn lt (a + k * bs) y d
theorem Runs.half {bs n : Nat} {d : Array α} (h : Runs lt bs n d) : Half lt bs n 0 0 d := ⟨by simp, fun k y hk => by omega, fun k y h1 h2 => by rw [Nat.zero_add] at *; exact h k y h1 h2⟩
theorem mul_step {k q B : Nat} (h : k < q) : k * B + B ≤ q * B := by
  rw [← Nat.succ_mul]; exact Nat.mul_le_mul_right _ h
theorem Half.left {bs n q a : Nat} {d : Array α} (h : Half lt bs n q a d) (hn : a + bs ≤ n) : SortedIn lt a (a + bs) d := by
  have := h.rest 0 (a + bs) (by omega) hn
  rwa [Nat.zero_mul, Nat.add_zero] at this
theorem Half.right {bs n q a y : Nat} {d : Array α} (h : Half lt bs n q a d) (hy : y ≤ a + bs + bs) (hn : y ≤ n) : SortedIn lt (a + bs) y d := by
  have := h.rest 1 y (by omega) hn
  rwa [Nat.one_mul] at this
theorem Half.step {bs n q a : Nat} {d d' : Array α} (h : Half lt bs n q a d) (hp : PermIn a (a + 2 * bs) d d') (hs : SortedIn lt a (a + 2 * bs) d') : Half lt bs n (q + 1) (a + 2 * bs) d' := by
  refine ⟨by rw [h.at_, Nat.add_mul, Nat.one_mul], fun k y hk hy => ?_, fun k y h1 h2 => ?_⟩
  · rcases Nat.lt_or_eq_of_le (Nat.le_of_lt_succ hk) with hk | rfl
    · have h3 := mul_step (B := 2 * bs) hk
      rw [← h.at_] at h3
      exact SortedIn.keep (h.done k y hk hy) fun i hi hi2 => hp.2.1 i (.inl (by omega))
    · rw [← h.at_] at *
      exact SortedIn.part hs (Nat.le_refl _) hy
  · have e : a + 2 * bs + k * bs = a + (k + 2) * bs := by rw [Nat.add_mul]; omega
    rw [e] at h1 ⊢
    exact SortedIn.keep (h.rest (k + 2) y h1 h2) fun i hi hi2 => hp.2.1 i (.inr (by rw [← e] at hi; omega))
theorem Half.fin {bs n q a : Nat} {d d' : Array α} (h : Half lt bs n q a d) (ha : n < a + 2 * bs) (hp : PermIn a n d d') (hs : SortedIn lt a n d') : Runs lt (2 * bs) n d' := fun k y hy hn => by
  rcases Nat.lt_trichotomy k q with hk | rfl | hk
  · have h3 := mul_step (B := 2 * bs) hk
    rw [← h.at_] at h3
    exact SortedIn.keep (h.done k y hk hy) fun i hi hi2 => hp.2.1 i (.inl (by omega))
  · rw [← h.at_]
    exact SortedIn.part hs (Nat.le_refl _) hn
  · have h3 := mul_step (B := 2 * bs) hk
    rw [← h.at_] at h3
    exact fun i j hi hij hj => by omega
set_option maxHeartbeats 8000000 in
set_option maxRecDepth 1000000 in
theorem stable_any (hP : Pairs enc) (R : RowK enc 2 w0 blk off d0) (hC : CmpLays Tryz.prog 57 #[] enc 2 cf blk off d0.size w0) (hO : SWO (ltOf cf)) (cap : Nat) (hsz : d0.size ≤ 4294967296) :
    Calls Tryz.prog 115 #[.slice (some ⟨blk, off, none⟩) d0.size cap, .int .i64 d0.size, .func (.func 57) #[] #[]] w0 fun e w' => e = .returned (.tuple #[]) ∧
      ∃ d', SWK enc 2 w0 blk off d' w' ∧ d'.size = d0.size ∧ PermIn 0 d0.size d0 d' ∧ SortedIn (ltOf cf) 0 d0.size d' := by
  have S0 := As.mk (SWK.start R.hH)
  have HIN := As.mk (fun a b d w => ins_any hP R hC hO cap (by omega) a b d w)
  have HSY := As.mk (fun a m b d w h1 => symMerge_any hP R hC hO cap (by omega) (b - a) a m b d w h1)
  clear hP R hC hO
  generalize hn : d0.size = n at *
  have HN := As.mk hn
  clear hn
  go_enter Tryz.func115, Tryz.ntmps115
  go_wp2_with fail
  go_loopg [7, 8] n (fun kx s7 s8 wr => ∃ (q a : Nat) (dk : Array α), a ≤ n ∧ n - a ≤ kx ∧ s7 = .int .i64 a ∧ s8 = .int .i64 ((a : Int) + 20) ∧ As (a = 20 * q) ∧ As (dk.size = n) ∧ As (SWK enc 2 w0 blk off dk wr) ∧ As (PermIn 0 n d0 dk) ∧ As (∀ k, k * 20 + 20 ≤ a → SortedIn (ltOf cf) (k * 20) (k * 20 + 20) dk))
  case atStart => exact ⟨0, 0, d0, by omega, by omega, by go_num, by go_num, ⟨rfl⟩, HN, S0, ⟨permIn_refl _ _ _⟩, ⟨fun k h => by omega⟩⟩
  case round =>
    obtain ⟨q, a, dk, han, hk, rfl, rfl, HQ, HZ, S1, P1, O1⟩ := hrel
    by_cases hlt : a + 20 ≤ n
    · have hltz : (a : Int) + 20 ≤ (n : Int) := by omega
      have x1 : IntKind.i64.wrap ((a : Int) + 20 + 20) = (a : Int) + 20 + 20 := by rw [IntKind.wrap_i64]; omega
      have hc := HIN.out a (a + 20) dk wr HZ.out S1.out (by omega) (by have := HZ.out; omega)
      rw [show ((a + 20 : Nat) : Int) = (a : Int) + 20 by omega] at hc
      go_wp2_with fail
      refine hc.mono ?_
      rintro e w2 ⟨rfl, d', hS, hz, hp, hs⟩
      have S2 := As.mk hS
      have Z2 := As.mk hz
      have P2 := As.mk (permIn_trans _ _ _ _ _ P1.out (permIn_mono _ _ _ _ 0 n (Nat.zero_le _) hlt (by have := HZ.out; omega) hp))
      have O2 : As (∀ k, k * 20 + 20 ≤ a + 20 → SortedIn (ltOf cf) (k * 20) (k * 20 + 20) d') := ⟨fun k h => by
        by_cases h2 : k * 20 + 20 ≤ a
        · exact SortedIn.keep (O1.out k h2) fun i hi hi2 => hp.2.1 i (.inl (by omega))
        · have : k * 20 = a := by have := HQ.out; omega
          rw [this]; exact hs⟩
      clear hS hz hp hs hc
      go_wp2_with fail
      go_roundg (n - (a + 20))
      case measure => omega
      case rel => exact ⟨q + 1, a + 20, d', by omega, by omega, by go_num, by go_num, ⟨by have := HQ.out; omega⟩, Z2, S2, P2, O2⟩
    · have hltz : ¬ (a : Int) + 20 ≤ (n : Int) := by omega
      have hc := HIN.out a n dk wr HZ.out S1.out (by omega) (by have := HZ.out; omega)
      go_wp2_with fail
      refine hc.mono ?_
      rintro e w2 ⟨rfl, d1, hS, hz, hp, hs⟩
      have S2 := As.mk hS
      have Z2 := As.mk hz
      have P2 := As.mk (permIn_trans _ _ _ _ _ P1.out (permIn_mono _ _ _ _ 0 n (Nat.zero_le _) (Nat.le_refl _) (by have := HZ.out; omega) hp))
      have R2 : As (Runs (ltOf cf) 20 n d1) := ⟨fun k y h1 h2 => by
        by_cases h3 : k * 20 + 20 ≤ a
        · exact SortedIn.keep (SortedIn.part (O1.out k h3) (Nat.le_refl _) h1) fun i hi hi2 => hp.2.1 i (.inl (by omega))
        · exact SortedIn.part hs (by have := HQ.out; omega) h2⟩
      clear hS hz hp hs hc
      generalize wr = wz at *
      go_wp2_with fail
      go_loopg [6, 7, 8, 9] n (fun kx s6 _ _ _ wr => ∃ (bs : Nat) (dk : Array α), 0 < bs ∧ bs ≤ 8589934592 + 20 ∧ n - bs ≤ kx ∧ s6 = .int .i64 bs ∧ As (dk.size = n) ∧ As (SWK enc 2 w0 blk off dk wr) ∧ As (PermIn 0 n d0 dk) ∧ As (Runs (ltOf cf) bs n dk))
      case atStart => exact ⟨20, d1, by omega, by omega, by omega, by go_num, Z2, S2, P2, R2⟩
      case round =>
        obtain ⟨bs, dk2, hb0, hb1, hk2, rfl, HZ2, S3, P3, R3⟩ := hrel
        by_cases hlt2 : bs < n
        · have hltz2 : (bs : Int) < (n : Int) := by omega
          have y1 : IntKind.i64.wrap (2 * (bs : Int)) = 2 * (bs : Int) := by rw [IntKind.wrap_i64]; omega
          have y2 : IntKind.i64.wrap ((bs : Int) * 2) = (bs : Int) * 2 := by rw [IntKind.wrap_i64]; omega
          have H0 := As.mk R3.out.half
          generalize wr = wy at *
          go_wp2_with fail
          go_loopg [7, 8] n (fun kx s7 s8 wr => ∃ (q a : Nat) (dk : Array α), a ≤ n ∧ n - a ≤ kx ∧ s7 = .int .i64 a ∧ s8 = .int .i64 ((a : Int) + 2 * (bs : Int)) ∧ As (dk.size = n) ∧ As (SWK enc 2 w0 blk off dk wr) ∧ As (PermIn 0 n d0 dk) ∧ As (Half (ltOf cf) bs n q a dk))
          case atStart => exact ⟨0, 0, dk2, by omega, by omega, by go_num, by first | go_num | simp, HZ2, S3, P3, H0⟩
          case round =>
            obtain ⟨q, a, dk, han, hk3, rfl, rfl, HZ3, S4, P4, H4⟩ := hrel
            have z1 : IntKind.i64.wrap ((a : Int) + bs) = (a : Int) + bs := by rw [IntKind.wrap_i64]; omega
            by_cases hlt3 : a + 2 * bs ≤ n
            · have hltz3 : (a : Int) + 2 * (bs : Int) ≤ (n : Int) := by omega
              have z2 : IntKind.i64.wrap ((a : Int) + 2 * (bs : Int) + 2 * (bs : Int)) = (a : Int) + 2 * (bs : Int) + 2 * (bs : Int) := by rw [IntKind.wrap_i64]; omega
              have hc := HSY.out a (a + bs) (a + 2 * bs) dk wr (Nat.le_refl _) HZ3.out S4.out (by omega) (by omega) (by have := HZ3.out; omega) (H4.out.left (by omega)) (H4.out.right (by omega) (by omega))
              rw [show ((a + bs : Nat) : Int) = (a : Int) + bs by omega, show ((a + 2 * bs : Nat) : Int) = (a : Int) + 2 * (bs : Int) by omega] at hc
              go_wp2_with fail
              refine hc.mono ?_
              rintro e3 w3 ⟨rfl, d', hS, hz, hp, hs⟩
              have S5 := As.mk hS
              have Z5 := As.mk hz
              have P5 := As.mk (permIn_trans _ _ _ _ _ P4.out (permIn_mono _ _ _ _ 0 n (Nat.zero_le _) hlt3 (by have := HZ3.out; omega) hp))
              have H5 := As.mk (H4.out.step hp hs)
              clear hS hz hp hs hc
              go_wp2_with fail
              go_roundg (n - (a + 2 * bs))
              case measure => omega
              case rel => exact ⟨q + 1, a + 2 * bs, d', by omega, by omega, by go_num, by go_num, Z5, S5, P5, H5⟩
            · have hltz3 : ¬ (a : Int) + 2 * (bs : Int) ≤ (n : Int) := by omega
              by_cases hm : a + bs < n
              · have hmz : (a : Int) + (bs : Int) < (n : Int) := by omega
                have hc := HSY.out a (a + bs) n dk wr (Nat.le_refl _) HZ3.out S4.out (by omega) (by omega) (by have := HZ3.out; omega) (H4.out.left (by omega)) (H4.out.right (by omega) (Nat.le_refl _))
                rw [show ((a + bs : Nat) : Int) = (a : Int) + bs by omega] at hc
                go_wp2_with fail
                refine hc.mono ?_
                rintro e3 w3 ⟨rfl, d', hS, hz, hp, hs⟩
                have S5 := As.mk hS
                have Z5 := As.mk hz
                have P5 := As.mk (permIn_trans _ _ _ _ _ P4.out (permIn_mono _ _ _ _ 0 n (Nat.zero_le _) (Nat.le_refl _) (by have := HZ3.out; omega) hp))
                have R5 := As.mk (H4.out.fin (by omega) hp hs)
                clear hS hz hp hs hc
                go_wp2_with fail
                go_roundg (n - 2 * bs)
                case measure => omega
                case rel => exact ⟨2 * bs, d', by omega, by omega, by omega, by first | go_num | (simp; omega), Z5, S5, P5, R5⟩
              · have hmz : ¬ (a : Int) + (bs : Int) < (n : Int) := by omega
                have hs0 : SortedIn (ltOf cf) a n dk := by
                  have := H4.out.rest 0 n (by omega) (Nat.le_refl _)
                  rwa [Nat.zero_mul, Nat.add_zero] at this
                have R5 := As.mk (H4.out.fin (by omega) (permIn_refl _ _ _) hs0)
                clear hs0
                go_wp2_with fail
                go_roundg (n - 2 * bs)
                case measure => omega
                case rel => exact ⟨2 * bs, dk, by omega, by omega, by omega, by first | go_num | (simp; omega), HZ3, S4, P4, R5⟩
        · have hltz2 : ¬ (bs : Int) < (n : Int) := by omega
          have HF : As (SortedIn (ltOf cf) 0 n dk2) := ⟨by have := R3.out 0 n (by omega) (Nat.le_refl _); rwa [Nat.zero_mul] at this⟩
          go_wp2_with fail
          go_end0
          exact ⟨rfl, dk2, S3.out, HZ2.out, P3.out, HF.out⟩
end
end Go.Proofs.YtflckpfpgpfjlaaGreatDoor
end
section
namespace Go.Proofs.YtflckpfpgpfjlaaGreatDoor
open Go.RowKit Go.Sort Go.Shelf Go.Lib
theorem sortStable_nil (A : Option Addr) (c : Nat) (w : World) : Calls Tryz.prog 56 #[.slice A 0 c, .func (.func 57) #[] #[]] w fun e w' => e = .returned (.tuple #[]) ∧ w = w' := by
  have h1 : Calls Tryz.prog 166 #[.slice A 0 c, .int .i64 0, .int .i64 0, .func (.func 57) #[] #[]] w fun e w' => e = .returned (.tuple #[]) ∧ w = w' := by
    go_enter Tryz.func166, Tryz.ntmps166
    go_wp2_with fail
    go_loopg [8] 0 (fun g s8 wr => s8 = .int .i64 1 ∧ w = wr)
    case atStart => exact ⟨rfl, rfl⟩
    case round =>
      obtain ⟨rfl, rfl⟩ := hrel
      go_wp2
      go_end0
      exact ⟨rfl, rfl⟩
  have h2 : Calls Tryz.prog 115 #[.slice A 0 c, .int .i64 0, .func (.func 57) #[] #[]] w fun e w' => e = .returned (.tuple #[]) ∧ w = w' := by
    go_enter Tryz.func115, Tryz.ntmps115
    go_wp2_with fail
    go_loopg [7, 8] 0 (fun g s7 s8 wr => s7 = .int .i64 0 ∧ s8 = .int .i64 20 ∧ w = wr)
    case atStart => exact ⟨rfl, rfl, rfl⟩
    case round =>
      obtain ⟨rfl, rfl, rfl⟩ := hrel
      go_wp2_with (go_at_call 166; refine h1.mono ?_; rintro e w1 ⟨rfl, rfl⟩)
      go_loopg [6, 7, 8, 9] 0 (fun g s6 _ _ _ wr => s6 = .int .i64 20 ∧ w = wr)
      case atStart => exact ⟨rfl, rfl⟩
      case round =>
        obtain ⟨rfl, rfl⟩ := hrel
        go_wp2
        go_end0
        exact ⟨rfl, rfl⟩
  go_enter Tryz.func56, Tryz.ntmps56
  go_wp2_with (go_at_call 115; refine h2.mono ?_; rintro e w1 ⟨rfl, rfl⟩)
  go_end0
  exact ⟨rfl, rfl⟩
set_option maxRecDepth 100000 in
theorem sortStable_any (base : Nat) (v : Value) (xs : List GE) (ok : Blk) (w : World) (h : OwnL 2 (EE w ok) 66 w base v xs) (hs : ∀ x ∈ xs, rsound x.row = true) (hok : ∀ k, ¬ ok k 66 ∨ ∀ cells, w.heap[k]? ≠ some (.cells cells 66 (0, 0)) ∨ v.ownBlock ≠ some k) :
    Calls Tryz.prog 56 #[v, .func (.func 57) #[] #[]] w fun e w' => e = .returned (.tuple #[]) ∧ w.grownBy w' v.ownBlock ∧
      ∃ xs', xs'.Perm xs ∧ (xs'.Pairwise fun x y => ¬ rlex y.row x.row < 0) ∧ ∀ ok', (∀ k, base ≤ k → ok' k 66) → RdL 2 (EE w ok) w' ok' v xs' := by
  by_cases hne : xs = []
  · subst hne
    obtain ⟨A, c, rfl, _⟩ := h.shape
    refine (sortStable_nil A c w).mono fun e w' ⟨he, hw⟩ => ⟨he, ?_, [], List.Perm.refl _, List.Pairwise.nil, fun ok' hok' => ?_⟩
    · subst hw
      exact ⟨rfl, rfl, rfl, Nat.le_refl _, fun _ _ _ => rfl⟩
    · subst hw
      exact h.rd hok'
  have hne : 0 < xs.length := List.length_pos_iff.2 hne
  have h := h.and (P := fun x => rsound x.row = true) hs
  have h0 := h
  obtain ⟨cs, ho, hr, h1, hl⟩ := h
  rcases ho.2 with ⟨_, hn⟩ | ⟨g, cap, cur, rfl, hg, hh, hc, hcm, hs, ht⟩
  · omega
  obtain ⟨dl, hd1, hd2⟩ := own_cels (by decide) h0 hne
  have hE : ∀ x cs, (EE w ok x cs ∧ rsound x.row = true) → cs.length = 2 ∧ ∀ u ∈ cs, u.oneCell' = true := by
    rintro x cs ⟨⟨v, rfl, _, hv⟩, _⟩
    obtain ⟨A, d, rfl, _⟩ := hv.shape
    exact ⟨rfl, by simp [Value.oneCell']⟩
  have hdl : dl.length = xs.length := by have := congrArg List.length hd1; simpa using this
  haveI : Inhabited (Cel fun x cs => EE w ok x cs ∧ rsound x.row = true) := ⟨dl[0]'(by omega)⟩
  have hH := holds_cels (fun x cs h => (hE x cs h).1) hh hd2
  have hO : SWO (ltOf fun (p q : Cel fun x cs => EE w ok x cs ∧ rsound x.row = true) => rlex (celX p).row (celX q).row) := (rlex_cmp.comap fun p : Cel fun x cs => EE w ok x cs ∧ rsound x.row = true => (celX p).row).swo
  have hgs := (Array.getElem?_eq_some_iff.1 hh).1
  have hsh : ∀ p : Cel (fun x cs => EE w ok x cs ∧ rsound x.row = true), ∃ A n d, celEnc p = [.slice A n d, .int .i64 (celX p).w] ∧ n = (celX p).row.length ∧ RdV w ok (.slice A n d) (celX p).row := fun p => by
    obtain ⟨⟨v, hc, _, hx⟩, _⟩ := p.2
    obtain ⟨A, d, rfl, _⟩ := hx.shape
    exact ⟨A, _, d, hc, rfl, hx⟩
  have hP : Pairs (celEnc (E := fun x cs => EE w ok x cs ∧ rsound x.row = true)) := fun p => by
    obtain ⟨A, n, d, h, _⟩ := hsh p
    exact ⟨A, n, d, _, h⟩
  have hcmp : CmpLays Tryz.prog 57 #[] (celEnc (E := fun x cs => EE w ok x cs ∧ rsound x.row = true)) 2 (fun p q => rlex (celX p).row (celX q).row) g 0 dl.toArray.size w := by
    intro m os dk _ p q
    obtain ⟨A, n, c, h1, rfl, h3⟩ := hsh p
    obtain ⟨B, m', d, h2, rfl, h4⟩ := hsh q
    rw [h1, h2]
    have hrl : rcmp (celX p).row (celX q).row = rlex (celX p).row (celX q).row := rcmp_lex p.2.2 q.2.2
    have hst : Stays w (sortWorldK celEnc 2 w g 0 m dk os) ok AnyB := (Stays.grown (sortedK_grown dk) ok fun k t cells fr hk hh' ho => by
      injection hk with hk
      subst hk
      have e := tag_eq hh hh'
      subst e
      rcases hok g with h | h
      · exact h ho
      · rcases h cur with h | h
        · exact h hh
        · exact h rfl).trans (Stays.any _ _)
    exact (byRow_any A B c d (celX p).w (celX q).w (celX p).row (celX q).row _ (h3.mv hst) (h4.mv hst)).mono fun _ _ ⟨he, hw⟩ => ⟨by rw [he, hrl], hw⟩
  have hsz : dl.toArray.size = xs.length := by simpa using hdl
  have R : RowK (celEnc (E := fun x cs => EE w ok x cs ∧ rsound x.row = true)) 2 w g 0 dl.toArray := ⟨fun p => (hE _ _ p.2).1, fun p => (hE _ _ p.2).2, hH, hgs⟩
  have hS := stable_any hP R hcmp hO cap (by omega)
  rw [hsz] at hS
  have HEE := As.mk hE
  have HD1 := As.mk hd1
  have HHH := As.mk hh
  have HH := As.mk hH
  have HSZ := As.mk hsz
  clear hP R hcmp hO hH hh hd1 hd2 hsh hE h0 ho hr h1 ht hs hok hdl hsz
  go_enter Tryz.func56, Tryz.ntmps56
  go_wp2_with fail
  refine hS.mono ?_
  rintro e w' ⟨rfl, d', hw, hsd, hp, hso⟩
  have HF := As.mk (And.intro hw (And.intro hsd (And.intro hp hso)))
  clear hS hw hsd hp hso
  go_wp2_with fail
  go_end0
  obtain ⟨⟨n, os, rfl⟩, hsd, hp, hso⟩ := HF.out
  have hp' : PermIn 0 dl.toArray.size dl.toArray d' := by rw [HSZ.out]; exact hp
  refine ⟨rfl, sortedK_grown d', d'.toList.map celX, ?_, ?_, fun ok' hok' => ?_⟩
  · have := perm_cels (d := dl.toArray) (d' := d') hp'
    rw [← HD1.out]; simpa using this
  · refine (sorted_cels (d := dl.toArray) (cf := fun x y => rlex x.row y.row) hp'.1 ?_).imp fun h => Int.not_lt.1 h
    rw [HSZ.out]; exact hso
  · have hsz : d'.size = xs.length := hp'.1.trans HSZ.out
    have := sortedK_rd (n := n) (os := os) (cap := cap) HEE.out dl.toArray d' HHH.out HH.out hp'.1 (by omega) (by omega) (hok' g hg)
    rw [hsz] at this
    exact RdL.move this (fun _ _ h => h.1) (Stays.mono fun _ _ h => h)
end Go.Proofs.YtflckpfpgpfjlaaGreatDoor
end
