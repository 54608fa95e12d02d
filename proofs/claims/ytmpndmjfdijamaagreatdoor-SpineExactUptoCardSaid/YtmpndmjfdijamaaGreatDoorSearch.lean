/- The walks of slices.BinarySearchFunc over items, by an item and by a key. -/
import Derived.Test.YtmpndmjfdijamaaGreatDoorItem
set_option linter.unusedVariables false
set_option linter.unusedSimpArgs false
namespace Go.Proofs.YtmpndmjfdijamaaGreatDoor
open Go.RowKit Go.Sort
/-- What a search answers: i elements lie below, and whether the next one is met. -/
structure Found (f : GI → Int) (z : List GI) (i : Nat) (b : Bool) : Prop where
  le : i ≤ z.length
  below : ∀ (t : Nat) (x : GI), t < i → z[t]? = some x → f x < 0
  above : ∀ (t : Nat) (x : GI), i ≤ t → z[t]? = some x → 0 ≤ f x
  met : b = match z[i]? with
    | none => false
    | some x => decide (f x = 0)
def SearchPost (f : GI → Int) (z : List GI) (w : World) (e : Ending) (w' : World) : Prop := (∃ (i : Nat) (b : Bool), e = .returned (.tuple #[.int .i64 i, .bool b]) ∧ Found f z i b) ∧ Ext w w'
set_option maxHeartbeats 2000000 in
theorem bsItem_any (v : Value) (z : List GI) (A0 : Option Addr) (d0 n0 : Nat) (k e : ByteArray) (s : Int) (w : World) (hz : RdT w AnyB v z) (hm : Mono0 (fun x => kcmp x.key x.enc k e) z) :
    Calls Tryz.prog 58 #[v, .agg #[.string k, .string e, .slice A0 n0 d0, .int .i64 s], .func (.func 36) #[] #[]] w (SearchPost (fun x => kcmp x.key x.enc k e) z w) := by
  have mixed := mixed
  obtain ⟨A, c, rfl, hc⟩ := hz.shape
  have hl := hz.len
  have HR := As.mk hz
  have HM := As.mk hm
  clear hz hm
  have hE0 : Ext w (w.alloc (.cells #[.string k, .string e, .slice A0 n0 d0, .int .i64 s] 72)) := (by repeat (first | (with_reducible exact Ext.refl _) | (with_reducible assumption) | (with_reducible apply Ext.alloc) | (with_reducible apply Ext.drewN) | (with_reducible apply Ext.drew) | (with_reducible apply Ext.grow) | (with_reducible refine Ext.trans ?_ (by with_reducible assumption))))
  have b0 : (w.alloc (.cells #[.string k, .string e, .slice A0 n0 d0, .int .i64 s] 72)).cell? ⟨w.heap.size, 0, none⟩ = some (.string k) := by simp
  have b1 : (w.alloc (.cells #[.string k, .string e, .slice A0 n0 d0, .int .i64 s] 72)).cell? ⟨w.heap.size, 1, none⟩ = some (.string e) := by simp
  have b2 : (w.alloc (.cells #[.string k, .string e, .slice A0 n0 d0, .int .i64 s] 72)).cell? ⟨w.heap.size, 2, none⟩ = some (.slice A0 n0 d0) := by simp
  have b3 : (w.alloc (.cells #[.string k, .string e, .slice A0 n0 d0, .int .i64 s] 72)).cell? ⟨w.heap.size, 3, none⟩ = some (.int .i64 s) := by simp
  go_enter Tryz.func58, Tryz.ntmps58
  go_wp2
  generalize hW1 : w.alloc (.cells #[.string k, .string e, .slice A0 n0 d0, .int .i64 s] 72) = W1 at *
  clear hW1
  have HE0 := As.mk hE0
  have B0 := As.mk b0; have B1 := As.mk b1; have B2 := As.mk b2; have B3 := As.mk b3
  clear hE0 b0 b1 b2 b3
  go_loopg [9, 10, 11] z.length (fun g s9 s10 _ wr => ∃ lo hi : Nat, s9 = .int .i64 lo ∧ s10 = .int .i64 hi ∧ lo ≤ hi ∧ hi ≤ z.length ∧ hi - lo ≤ g ∧ As (Ext W1 wr) ∧
    As (∀ (t : Nat) (x : GI), t < lo → z[t]? = some x → kcmp x.key x.enc k e < 0) ∧ As (∀ (t : Nat) (x : GI), hi ≤ t → z[t]? = some x → 0 ≤ kcmp x.key x.enc k e))
  case atStart => exact ⟨0, z.length, rfl, rfl, Nat.zero_le _, Nat.le_refl _, by omega, ⟨Ext.refl _⟩, ⟨fun t x ht => absurd ht (Nat.not_lt_zero _)⟩, ⟨fun t x h1 h2 => absurd (List.getElem?_eq_some_iff.1 h2).1 (by omega)⟩⟩
  case round =>
    obtain ⟨lo, hi, rfl, rfl, hlh, hin, hg, HE, HL, HH⟩ := hrel
    have hE := HE.out
    have q0 : ∀ m os, (grow (wr.drewN m) os).cell? ⟨w.heap.size, 0, none⟩ = some (.string k) := fun m os => Ext.cell (Ext.grow hE m os) B0.out
    have q1 : ∀ m os, (grow (wr.drewN m) os).cell? ⟨w.heap.size, 1, none⟩ = some (.string e) := fun m os => Ext.cell (Ext.grow hE m os) B1.out
    have q2 : ∀ m os, (grow (wr.drewN m) os).cell? ⟨w.heap.size, 2, none⟩ = some (.slice A0 n0 d0) := fun m os => Ext.cell (Ext.grow hE m os) B2.out
    have q3 : ∀ m os, (grow (wr.drewN m) os).cell? ⟨w.heap.size, 3, none⟩ = some (.int .i64 s) := fun m os => Ext.cell (Ext.grow hE m os) B3.out
    by_cases hlt : lo < hi
    · have hltz : (lo : Int) < (hi : Int) := by omega
      obtain ⟨x, hx⟩ : ∃ x, z[(lo + hi) / 2]? = some x := ⟨_, List.getElem?_eq_getElem (by omega)⟩
      obtain ⟨b, o, c', A1, d1, hv, hb, _, _, _, c0, c1, c2, c3⟩ := RdT.itm HR.out hx
      injection hv with hA _ hcc
      subst hA
      have hE0 := HE0.out
      have p0 : ∀ m os, (grow (wr.drewN m) os).cell? ⟨b, o + (lo + hi) / 2 * 4, none⟩ = some (.string x.key) := fun m os => Ext.cell (Ext.grow (hE0.trans hE) m os) c0
      have p1 : ∀ m os, (grow (wr.drewN m) os).cell? ⟨b, o + (lo + hi) / 2 * 4 + 1, none⟩ = some (.string x.enc) := fun m os => Ext.cell (Ext.grow (hE0.trans hE) m os) c1
      have p2 : ∀ m os, (grow (wr.drewN m) os).cell? ⟨b, o + (lo + hi) / 2 * 4 + 2, none⟩ = some (.slice A1 x.row.length d1) := fun m os => Ext.cell (Ext.grow (hE0.trans hE) m os) c2
      have p3 : ∀ m os, (grow (wr.drewN m) os).cell? ⟨b, o + (lo + hi) / 2 * 4 + 3, none⟩ = some (.int .i64 x.size) := fun m os => Ext.cell (Ext.grow (hE0.trans hE) m os) c3
      have f1 := fun W => compare_any A1 A0 x.row.length n0 d1 d0 x.key x.enc k e x.size s W
      have HX := As.mk hx
      clear hx hcc c0 c1 c2 c3 hE0
      by_cases hq : kcmp x.key x.enc k e < 0
      · have HQ := As.mk hq
        generalize kcmp x.key x.enc k e = q at f1 hq
        go_wp2
        (refine wp_region_quiet_grown (by assumption) (by kernel_rfl) ?_; (repeat (go_big_quiet_step ( (go_at_call 36; exact grown_ext (f1 _)) ))); refine wpQuiet_nil ?_; intro _ hw'; obtain ⟨⟨nq, osq⟩, hw''⟩ := hw'; subst hw'')
        go_wp2
        go_roundg (hi - ((lo + hi) / 2 + 1))
        case measure => omega
        case rel =>
          have hn : As (∀ (t : Nat) (y : GI), t < (lo + hi) / 2 + 1 → z[t]? = some y → kcmp y.key y.enc k e < 0) := ⟨fun t y ht hy => HM.out t ((lo + hi) / 2) y x (by omega) hy HX.out HQ.out⟩
          exact ⟨(lo + hi) / 2 + 1, hi, by go_num, rfl, by omega, hin, by omega, ⟨(by repeat (first | (with_reducible exact Ext.refl _) | (with_reducible assumption) | (with_reducible apply Ext.alloc) | (with_reducible apply Ext.drewN) | (with_reducible apply Ext.drew) | (with_reducible apply Ext.grow) | (with_reducible refine Ext.trans ?_ (by with_reducible assumption))))⟩, hn, HH⟩
      · have HQ := As.mk hq
        generalize kcmp x.key x.enc k e = q at f1 hq
        go_wp2
        (refine wp_region_quiet_grown (by assumption) (by kernel_rfl) ?_; (repeat (go_big_quiet_step ( (go_at_call 36; exact grown_ext (f1 _)) ))); refine wpQuiet_nil ?_; intro _ hw'; obtain ⟨⟨nq, osq⟩, hw''⟩ := hw'; subst hw'')
        go_wp2
        go_roundg ((lo + hi) / 2 - lo)
        case measure => omega
        case rel =>
          have hn : As (∀ (t : Nat) (y : GI), (lo + hi) / 2 ≤ t → z[t]? = some y → 0 ≤ kcmp y.key y.enc k e) := ⟨fun t y ht hy => Int.not_lt.1 fun h => absurd (HM.out ((lo + hi) / 2) t x y ht HX.out hy h) (Int.not_lt.2 HQ.out)⟩
          exact ⟨lo, (lo + hi) / 2, rfl, by go_num, by omega, by omega, by omega, ⟨(by repeat (first | (with_reducible exact Ext.refl _) | (with_reducible assumption) | (with_reducible apply Ext.alloc) | (with_reducible apply Ext.drewN) | (with_reducible apply Ext.drew) | (with_reducible apply Ext.grow) | (with_reducible refine Ext.trans ?_ (by with_reducible assumption))))⟩, HL, hn⟩
    · obtain rfl : hi = lo := by omega
      by_cases hn : hi < z.length
      · have hnz : (hi : Int) < (z.length : Int) := by omega
        obtain ⟨x, hx⟩ : ∃ x, z[hi]? = some x := ⟨_, List.getElem?_eq_getElem hn⟩
        obtain ⟨b, o, c', A1, d1, hv, hb, _, _, _, c0, c1, c2, c3⟩ := RdT.itm HR.out hx
        injection hv with hA _ hcc
        subst hA
        have hE0 := HE0.out
        have p0 : ∀ m os, (grow (wr.drewN m) os).cell? ⟨b, o + hi * 4, none⟩ = some (.string x.key) := fun m os => Ext.cell (Ext.grow (hE0.trans hE) m os) c0
        have p1 : ∀ m os, (grow (wr.drewN m) os).cell? ⟨b, o + hi * 4 + 1, none⟩ = some (.string x.enc) := fun m os => Ext.cell (Ext.grow (hE0.trans hE) m os) c1
        have p2 : ∀ m os, (grow (wr.drewN m) os).cell? ⟨b, o + hi * 4 + 2, none⟩ = some (.slice A1 x.row.length d1) := fun m os => Ext.cell (Ext.grow (hE0.trans hE) m os) c2
        have p3 : ∀ m os, (grow (wr.drewN m) os).cell? ⟨b, o + hi * 4 + 3, none⟩ = some (.int .i64 x.size) := fun m os => Ext.cell (Ext.grow (hE0.trans hE) m os) c3
        have f1 := fun W => compare_any A1 A0 x.row.length n0 d1 d0 x.key x.enc k e x.size s W
        have HF : As (Found (fun x => kcmp x.key x.enc k e) z hi (kcmp x.key x.enc k e == 0)) := ⟨⟨by omega, HL.out, HH.out, by rw [hx]; simp [Bool.beq_eq_decide_eq]⟩⟩
        clear hx hcc c0 c1 c2 c3 hE0
        generalize hq : kcmp x.key x.enc k e = q at f1 HF
        clear hq
        go_wp2
        (refine wp_region_quiet_grown (by assumption) (by kernel_rfl) ?_; (repeat (go_big_quiet_step ( (go_at_call 36; exact grown_ext (f1 _)) ))); refine wpQuiet_nil ?_; intro _ hw'; obtain ⟨⟨nq, osq⟩, hw''⟩ := hw'; subst hw'')
        go_wp2
        go_ret2
        have hE1 := HE0.out
        exact ⟨⟨_, _, rfl, HF.out⟩, (by repeat (first | (with_reducible exact Ext.refl _) | (with_reducible assumption) | (with_reducible apply Ext.alloc) | (with_reducible apply Ext.drewN) | (with_reducible apply Ext.drew) | (with_reducible apply Ext.grow) | (with_reducible refine Ext.trans ?_ (by with_reducible assumption))))⟩
      · have hnz : ¬ (hi : Int) < (z.length : Int) := by omega
        have hnb : decide ((hi : Int) < (z.length : Int)) = false := by simpa using hnz
        have HF : As (Found (fun x => kcmp x.key x.enc k e) z hi false) := ⟨⟨by omega, HL.out, HH.out, by rw [List.getElem?_eq_none (by omega)]⟩⟩
        go_wp2
        (refine wp_region_quiet_grown (by assumption) (by kernel_rfl) ?_; (repeat (go_big_quiet_step ( fail ))); refine wpQuiet_nil ?_; intro _ hw'; obtain ⟨⟨nq, osq⟩, hw''⟩ := hw'; subst hw'')
        go_wp2
        go_ret2
        have hE1 := HE0.out
        exact ⟨⟨_, _, rfl, HF.out⟩, (by repeat (first | (with_reducible exact Ext.refl _) | (with_reducible assumption) | (with_reducible apply Ext.alloc) | (with_reducible apply Ext.drewN) | (with_reducible apply Ext.drew) | (with_reducible apply Ext.grow) | (with_reducible refine Ext.trans ?_ (by with_reducible assumption))))⟩
theorem get1_any (A : Option Addr) (n c : Nat) (k e t : ByteArray) (s : Int) (w : World) :
    Calls Tryz.prog 46 #[.agg #[.string k, .string e, .slice A n c, .int .i64 s], .string t] w fun r w' => r = .returned (.int .i64 (scmp k t)) ∧ Ext w w' := by
  go_enter Tryz.func46, Tryz.ntmps46
  go_wp2_with (go_at_call 47; refine (strCompare_any _ _ _).mono ?_; rintro e w' ⟨rfl, rfl⟩)
  go_ret
  exact ⟨rfl, (by repeat (first | (with_reducible exact Ext.refl _) | (with_reducible assumption) | (with_reducible apply Ext.alloc) | (with_reducible apply Ext.drewN) | (with_reducible apply Ext.drew) | (with_reducible apply Ext.grow) | (with_reducible refine Ext.trans ?_ (by with_reducible assumption))))⟩
set_option maxHeartbeats 2000000 in
theorem bsKey_any (v : Value) (z : List GI) (k : ByteArray) (w : World) (hz : RdT w AnyB v z) (hm : Mono0 (fun x => scmp x.key k) z) :
    Calls Tryz.prog 45 #[v, .string k, .func (.func 46) #[] #[]] w (SearchPost (fun x => scmp x.key k) z w) := by
  have mixed := mixed
  obtain ⟨A, c, rfl, hc⟩ := hz.shape
  have hl := hz.len
  have HR := As.mk hz
  have HM := As.mk hm
  clear hz hm
  go_enter Tryz.func45, Tryz.ntmps45
  go_wp2
  go_loopg [9, 10, 11] z.length (fun g s9 s10 _ wr => ∃ lo hi : Nat, s9 = .int .i64 lo ∧ s10 = .int .i64 hi ∧ lo ≤ hi ∧ hi ≤ z.length ∧ hi - lo ≤ g ∧ As (Ext w wr) ∧
    As (∀ (t : Nat) (x : GI), t < lo → z[t]? = some x → scmp x.key k < 0) ∧ As (∀ (t : Nat) (x : GI), hi ≤ t → z[t]? = some x → 0 ≤ scmp x.key k))
  case atStart => exact ⟨0, z.length, rfl, rfl, Nat.zero_le _, Nat.le_refl _, by omega, ⟨Ext.refl _⟩, ⟨fun t x ht => absurd ht (Nat.not_lt_zero _)⟩, ⟨fun t x h1 h2 => absurd (List.getElem?_eq_some_iff.1 h2).1 (by omega)⟩⟩
  case round =>
    obtain ⟨lo, hi, rfl, rfl, hlh, hin, hg, HE, HL, HH⟩ := hrel
    have hE := HE.out
    by_cases hlt : lo < hi
    · have hltz : (lo : Int) < (hi : Int) := by omega
      obtain ⟨x, hx⟩ : ∃ x, z[(lo + hi) / 2]? = some x := ⟨_, List.getElem?_eq_getElem (by omega)⟩
      obtain ⟨b, o, c', A1, d1, hv, hb, _, _, _, c0, c1, c2, c3⟩ := RdT.itm HR.out hx
      injection hv with hA _ hcc
      subst hA
      have p0 : wr.cell? ⟨b, o + (lo + hi) / 2 * 4, none⟩ = some (.string x.key) := Ext.cell hE c0
      have p1 : wr.cell? ⟨b, o + (lo + hi) / 2 * 4 + 1, none⟩ = some (.string x.enc) := Ext.cell hE c1
      have p2 : wr.cell? ⟨b, o + (lo + hi) / 2 * 4 + 2, none⟩ = some (.slice A1 x.row.length d1) := Ext.cell hE c2
      have p3 : wr.cell? ⟨b, o + (lo + hi) / 2 * 4 + 3, none⟩ = some (.int .i64 x.size) := Ext.cell hE c3
      have f1 := fun W => get1_any A1 x.row.length d1 x.key x.enc k x.size W
      have HX := As.mk hx
      clear hx hcc c0 c1 c2 c3
      by_cases hq : scmp x.key k < 0
      · have HQ := As.mk hq
        generalize scmp x.key k = q at f1 hq
        go_wp2_with (go_at_call 46; refine (f1 _).mono ?_; rintro r w1 ⟨rfl, hE1⟩)
        go_roundg (hi - ((lo + hi) / 2 + 1))
        case measure => omega
        case rel =>
          have hn : As (∀ (t : Nat) (y : GI), t < (lo + hi) / 2 + 1 → z[t]? = some y → scmp y.key k < 0) := ⟨fun t y ht hy => HM.out t ((lo + hi) / 2) y x (by omega) hy HX.out HQ.out⟩
          exact ⟨(lo + hi) / 2 + 1, hi, by go_num, rfl, by omega, hin, by omega, ⟨(by repeat (first | (with_reducible exact Ext.refl _) | (with_reducible assumption) | (with_reducible apply Ext.alloc) | (with_reducible apply Ext.drewN) | (with_reducible apply Ext.drew) | (with_reducible apply Ext.grow) | (with_reducible refine Ext.trans ?_ (by with_reducible assumption))))⟩, hn, HH⟩
      · have HQ := As.mk hq
        generalize scmp x.key k = q at f1 hq
        go_wp2_with (go_at_call 46; refine (f1 _).mono ?_; rintro r w1 ⟨rfl, hE1⟩)
        go_roundg ((lo + hi) / 2 - lo)
        case measure => omega
        case rel =>
          have hn : As (∀ (t : Nat) (y : GI), (lo + hi) / 2 ≤ t → z[t]? = some y → 0 ≤ scmp y.key k) := ⟨fun t y ht hy => Int.not_lt.1 fun h => absurd (HM.out ((lo + hi) / 2) t x y ht HX.out hy h) (Int.not_lt.2 HQ.out)⟩
          exact ⟨lo, (lo + hi) / 2, rfl, by go_num, by omega, by omega, by omega, ⟨(by repeat (first | (with_reducible exact Ext.refl _) | (with_reducible assumption) | (with_reducible apply Ext.alloc) | (with_reducible apply Ext.drewN) | (with_reducible apply Ext.drew) | (with_reducible apply Ext.grow) | (with_reducible refine Ext.trans ?_ (by with_reducible assumption))))⟩, HL, hn⟩
    · obtain rfl : hi = lo := by omega
      by_cases hn : hi < z.length
      · have hnz : (hi : Int) < (z.length : Int) := by omega
        obtain ⟨x, hx⟩ : ∃ x, z[hi]? = some x := ⟨_, List.getElem?_eq_getElem hn⟩
        obtain ⟨b, o, c', A1, d1, hv, hb, _, _, _, c0, c1, c2, c3⟩ := RdT.itm HR.out hx
        injection hv with hA _ hcc
        subst hA
        have p0 : wr.cell? ⟨b, o + hi * 4, none⟩ = some (.string x.key) := Ext.cell hE c0
        have p1 : wr.cell? ⟨b, o + hi * 4 + 1, none⟩ = some (.string x.enc) := Ext.cell hE c1
        have p2 : wr.cell? ⟨b, o + hi * 4 + 2, none⟩ = some (.slice A1 x.row.length d1) := Ext.cell hE c2
        have p3 : wr.cell? ⟨b, o + hi * 4 + 3, none⟩ = some (.int .i64 x.size) := Ext.cell hE c3
        have f1 := fun W => get1_any A1 x.row.length d1 x.key x.enc k x.size W
        have HF : As (Found (fun x => scmp x.key k) z hi (scmp x.key k == 0)) := ⟨⟨by omega, HL.out, HH.out, by rw [hx]; simp [Bool.beq_eq_decide_eq]⟩⟩
        clear hx hcc c0 c1 c2 c3
        generalize hq : scmp x.key k = q at f1 HF
        clear hq
        go_wp2_with (go_at_call 46; refine (f1 _).mono ?_; rintro r w1 ⟨rfl, hE1⟩)
        go_ret2
        exact ⟨⟨_, _, rfl, HF.out⟩, (by repeat (first | (with_reducible exact Ext.refl _) | (with_reducible assumption) | (with_reducible apply Ext.alloc) | (with_reducible apply Ext.drewN) | (with_reducible apply Ext.drew) | (with_reducible apply Ext.grow) | (with_reducible refine Ext.trans ?_ (by with_reducible assumption))))⟩
      · have hnz : ¬ (hi : Int) < (z.length : Int) := by omega
        have hnb : decide ((hi : Int) < (z.length : Int)) = false := by simpa using hnz
        have HF : As (Found (fun x => scmp x.key k) z hi false) := ⟨⟨by omega, HL.out, HH.out, by rw [List.getElem?_eq_none (by omega)]⟩⟩
        go_wp2
        go_ret2
        exact ⟨⟨_, _, rfl, HF.out⟩, (by repeat (first | (with_reducible exact Ext.refl _) | (with_reducible assumption) | (with_reducible apply Ext.alloc) | (with_reducible apply Ext.drewN) | (with_reducible apply Ext.drew) | (with_reducible apply Ext.grow) | (with_reducible refine Ext.trans ?_ (by with_reducible assumption))))⟩
end Go.Proofs.YtmpndmjfdijamaaGreatDoor
