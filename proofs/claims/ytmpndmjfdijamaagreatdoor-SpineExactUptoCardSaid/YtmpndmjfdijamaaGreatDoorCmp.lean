/- The walks of slices.CompareFunc at values, row.Compare, and of the package zset as far as a multiset's soundness goes. -/
import Derived.Test.YtmpndmjfdijamaaGreatDoorRow
set_option linter.unusedVariables false
set_option linter.unusedSimpArgs false
namespace Go.Proofs.YtmpndmjfdijamaaGreatDoor
open Go.RowKit Go.Sort
theorem rcmp0_drop (r s : List GV) (k : Nat) (x y : GV) (hx : r[k]? = some x) (hy : s[k]? = some y) : rcmp0 (r.drop k) (s.drop k) = if vcmp x y ≠ 0 then vcmp x y else rcmp0 (r.drop (k + 1)) (s.drop (k + 1)) := by
  obtain ⟨h1, rfl⟩ := List.getElem?_eq_some_iff.1 hx
  obtain ⟨h2, rfl⟩ := List.getElem?_eq_some_iff.1 hy
  rw [List.drop_eq_getElem_cons h1, List.drop_eq_getElem_cons h2, rcmp0]
theorem rcmp0_short (r s : List GV) (k : Nat) (h1 : k < r.length) (h2 : s.length ≤ k) : rcmp0 (r.drop k) (s.drop k) = 1 := by
  rw [List.drop_eq_getElem_cons h1, List.drop_eq_nil_of_le h2]; rfl
theorem rcmp0_end (r s : List GV) (h : r.length ≤ s.length) : rcmp0 (r.drop r.length) (s.drop r.length) = if r.length < s.length then -1 else 0 := by
  rw [List.drop_length]
  by_cases h1 : r.length < s.length
  · rw [if_pos h1, List.drop_eq_getElem_cons h1]; rfl
  · rw [if_neg h1, List.drop_eq_nil_of_le (by omega)]; rfl
set_option maxHeartbeats 1000000 in
theorem cmpRows_any (v u : Value) (r s : List GV) (w : World) (hr : RdV w AnyB v r) (hs : RdV w AnyB u s) :
    Calls Tryz.prog 107 #[v, u, .func (.func 108) #[] #[]] w fun e w' => e = .returned (.int .i64 (rcmp0 r s)) ∧ Ext w w' := by
  obtain ⟨A, c, rfl, hc⟩ := hr.shape
  have hl := hr.len
  obtain ⟨B, d, rfl, hd⟩ := hs.shape
  have hm := hs.len
  have HR := As.mk hr
  have HS := As.mk hs
  clear hr hs
  go_enter Tryz.func107, Tryz.ntmps107
  go_wp2
  go_loopg [7, 8, 9, 10, 13] r.length (fun g _ _ _ _ s13 wr => ∃ k : Nat, k ≤ r.length ∧ k ≤ s.length ∧ r.length - k ≤ g ∧ s13 = .int .i64 k ∧ As (Ext w wr) ∧ As (rcmp0 (r.drop k) (s.drop k) = rcmp0 r s))
  case atStart => exact ⟨0, Nat.zero_le _, Nat.zero_le _, by omega, rfl, ⟨Ext.refl _⟩, ⟨rfl⟩⟩
  case round =>
    obtain ⟨k, hk, hks, hg, rfl, HE, HA⟩ := hrel
    by_cases hlt : k < r.length
    · have hltz : (k : Int) < (r.length : Int) := by omega
      obtain ⟨x, hx⟩ : ∃ x, r[k]? = some x := ⟨_, List.getElem?_eq_getElem hlt⟩
      obtain ⟨b, o, c', hv, hb, hok, c0, c1, c2, c3⟩ := RdV.val HR.out hx
      injection hv with hA _ hcc
      subst hA
      replace c0 := HE.out.cell c0; replace c1 := HE.out.cell c1; replace c2 := HE.out.cell c2; replace c3 := HE.out.cell c3
      by_cases hlt2 : k < s.length
      · have hltz2 : ¬ (s.length : Int) ≤ (k : Int) := by omega
        have hltz3 : (k : Int) < (s.length : Int) := by omega
        obtain ⟨y, hy⟩ : ∃ y, s[k]? = some y := ⟨_, List.getElem?_eq_getElem hlt2⟩
        obtain ⟨b2, o2, c2', hv2, hb2, hok2, d0, d1, d2, d3⟩ := RdV.val HS.out hy
        injection hv2 with hA2 _ hcc2
        subst hA2
        replace d0 := HE.out.cell d0; replace d1 := HE.out.cell d1; replace d2 := HE.out.cell d2; replace d3 := HE.out.cell d3
        have hb' : b < wr.heap.size := Nat.lt_of_lt_of_le hb HE.out.size
        have hb2' : b2 < wr.heap.size := Nat.lt_of_lt_of_le hb2 HE.out.size
        have s1 := fun W => vCompare_any x y W hok hok2
        have HD := As.mk (rcmp0_drop r s k x y hx hy)
        clear hx hy hcc hcc2 hok hok2 hb hb2
        generalize vcmp x y = q at *
        by_cases hq : q = 0
        · subst hq
          go_wp2_with (go_at_call 108; refine (s1 _).mono ?_; rintro e w1 ⟨rfl, hE⟩)
          go_roundg (r.length - (k + 1))
          case measure => omega
          case rel =>
            have HF : As (rcmp0 (r.drop (k + 1)) (s.drop (k + 1)) = rcmp0 r s) := ⟨by rw [← HA.out, HD.out]; simp⟩
            have hE0 := HE.out
            exact ⟨k + 1, by omega, by omega, by omega, by go_num, ⟨(by repeat (first | (with_reducible exact Ext.refl _) | (with_reducible assumption) | (with_reducible apply Ext.alloc) | (with_reducible apply Ext.drewN) | (with_reducible apply Ext.drew) | (with_reducible apply Ext.grow) | (with_reducible refine Ext.trans ?_ (by with_reducible assumption))))⟩, HF⟩
        · have hqb : (q != 0) = true := by simpa using hq
          go_wp2_with (go_at_call 108; refine (s1 _).mono ?_; rintro e w1 ⟨rfl, hE⟩)
          go_ret
          have hE0 := HE.out
          exact ⟨ret_int (by rw [← HA.out, HD.out, if_pos hq]), (by repeat (first | (with_reducible exact Ext.refl _) | (with_reducible assumption) | (with_reducible apply Ext.alloc) | (with_reducible apply Ext.drewN) | (with_reducible apply Ext.drew) | (with_reducible apply Ext.grow) | (with_reducible refine Ext.trans ?_ (by with_reducible assumption))))⟩
      · have hltz2 : (s.length : Int) ≤ (k : Int) := by omega
        have HD := As.mk (rcmp0_short r s k hlt (by omega))
        clear hx
        go_wp2
        go_ret
        have hE0 := HE.out
        exact ⟨ret_int (by rw [← HA.out, HD.out]), (by repeat (first | (with_reducible exact Ext.refl _) | (with_reducible assumption) | (with_reducible apply Ext.alloc) | (with_reducible apply Ext.drewN) | (with_reducible apply Ext.drew) | (with_reducible apply Ext.grow) | (with_reducible refine Ext.trans ?_ (by with_reducible assumption))))⟩
    · have hltz : ¬ (k : Int) < (r.length : Int) := by omega
      obtain rfl : k = r.length := by omega
      have HD := As.mk (rcmp0_end r s hks)
      by_cases h3 : r.length < s.length
      · have h3z : (r.length : Int) < (s.length : Int) := by omega
        go_wp2
        go_ret
        exact ⟨ret_int (by rw [← HA.out, HD.out, if_pos h3]), HE.out⟩
      · have h3z : ¬ (r.length : Int) < (s.length : Int) := by omega
        go_wp2
        go_ret
        exact ⟨ret_int (by rw [← HA.out, HD.out, if_neg h3]), HE.out⟩
theorem rCompare_any (v u : Value) (r s : List GV) (w : World) (hr : RdV w AnyB v r) (hs : RdV w AnyB u s) :
    Calls Tryz.prog 78 #[v, u] w fun e w' => e = .returned (.int .i64 (rcmp r s)) ∧ Ext w w' := by
  have h1 := fun W (hE : Ext w W) => rSound_any v r W (hr.ext hE.below)
  have h2 := fun W (hE : Ext w W) => rSound_any u s W (hs.ext hE.below)
  have h3 := fun W (hE : Ext w W) => cmpRows_any v u r s W (hr.ext hE.below) (hs.ext hE.below)
  obtain ⟨A, c, rfl, hc⟩ := hr.shape
  obtain ⟨B, d, rfl, hd⟩ := hs.shape
  have hv : rcmp r s = if rsound r = false ∨ rsound s = false then 0 else rcmp0 r s := rfl
  rw [hv]
  clear hv hr hs
  generalize rcmp0 r s = q at *
  generalize rsound s = b2 at *
  generalize rsound r = b1 at *
  cases b1
  · rw [if_pos (.inl rfl)]
    go_enter Tryz.func78, Tryz.ntmps78
    go_wp2_with fail
    refine (h1 _ (by repeat (first | (with_reducible exact Ext.refl _) | (with_reducible assumption) | (with_reducible apply Ext.alloc) | (with_reducible apply Ext.drewN) | (with_reducible apply Ext.drew) | (with_reducible apply Ext.grow) | (with_reducible refine Ext.trans ?_ (by with_reducible assumption))))).mono ?_
    rintro e w1 ⟨rfl, hE⟩
    go_wp2_with fail
    go_ret
    exact ⟨rfl, (by repeat (first | (with_reducible exact Ext.refl _) | (with_reducible assumption) | (with_reducible apply Ext.alloc) | (with_reducible apply Ext.drewN) | (with_reducible apply Ext.drew) | (with_reducible apply Ext.grow) | (with_reducible refine Ext.trans ?_ (by with_reducible assumption))))⟩
  · cases b2
    · rw [if_pos (.inr rfl)]
      go_enter Tryz.func78, Tryz.ntmps78
      go_wp2_with fail
      refine (h1 _ (by repeat (first | (with_reducible exact Ext.refl _) | (with_reducible assumption) | (with_reducible apply Ext.alloc) | (with_reducible apply Ext.drewN) | (with_reducible apply Ext.drew) | (with_reducible apply Ext.grow) | (with_reducible refine Ext.trans ?_ (by with_reducible assumption))))).mono ?_
      rintro e w1 ⟨rfl, hE⟩
      go_wp2_with fail
      refine (h2 _ (by repeat (first | (with_reducible exact Ext.refl _) | (with_reducible assumption) | (with_reducible apply Ext.alloc) | (with_reducible apply Ext.drewN) | (with_reducible apply Ext.drew) | (with_reducible apply Ext.grow) | (with_reducible refine Ext.trans ?_ (by with_reducible assumption))))).mono ?_
      rintro e w2 ⟨rfl, hE2⟩
      go_wp2_with fail
      go_ret
      exact ⟨rfl, (by repeat (first | (with_reducible exact Ext.refl _) | (with_reducible assumption) | (with_reducible apply Ext.alloc) | (with_reducible apply Ext.drewN) | (with_reducible apply Ext.drew) | (with_reducible apply Ext.grow) | (with_reducible refine Ext.trans ?_ (by with_reducible assumption))))⟩
    · rw [if_neg (by simp)]
      go_enter Tryz.func78, Tryz.ntmps78
      go_wp2_with fail
      refine (h1 _ (by repeat (first | (with_reducible exact Ext.refl _) | (with_reducible assumption) | (with_reducible apply Ext.alloc) | (with_reducible apply Ext.drewN) | (with_reducible apply Ext.drew) | (with_reducible apply Ext.grow) | (with_reducible refine Ext.trans ?_ (by with_reducible assumption))))).mono ?_
      rintro e w1 ⟨rfl, hE⟩
      go_wp2_with fail
      refine (h2 _ (by repeat (first | (with_reducible exact Ext.refl _) | (with_reducible assumption) | (with_reducible apply Ext.alloc) | (with_reducible apply Ext.drewN) | (with_reducible apply Ext.drew) | (with_reducible apply Ext.grow) | (with_reducible refine Ext.trans ?_ (by with_reducible assumption))))).mono ?_
      rintro e w2 ⟨rfl, hE2⟩
      go_wp2_with fail
      refine (h3 _ (by repeat (first | (with_reducible exact Ext.refl _) | (with_reducible assumption) | (with_reducible apply Ext.alloc) | (with_reducible apply Ext.drewN) | (with_reducible apply Ext.drew) | (with_reducible apply Ext.grow) | (with_reducible refine Ext.trans ?_ (by with_reducible assumption))))).mono ?_
      rintro e w3 ⟨rfl, hE3⟩
      go_wp2_with fail
      go_ret
      exact ⟨rfl, (by repeat (first | (with_reducible exact Ext.refl _) | (with_reducible assumption) | (with_reducible apply Ext.alloc) | (with_reducible apply Ext.drewN) | (with_reducible apply Ext.drew) | (with_reducible apply Ext.grow) | (with_reducible refine Ext.trans ?_ (by with_reducible assumption))))⟩
theorem byRow_any (A B : Option Addr) (c d : Nat) (a b : Int) (r s : List GV) (w : World) (hr : RdV w AnyB (.slice A r.length c) r) (hs : RdV w AnyB (.slice B s.length d) s) :
    Calls Tryz.prog 52 #[.agg #[.slice A r.length c, .int .i64 a], .agg #[.slice B s.length d, .int .i64 b]] w fun e w' => e = .returned (.int .i64 (rcmp r s)) ∧ Ext w w' := by
  have h1 := fun W (hE : Ext w W) => rCompare_any _ _ r s W (hr.ext hE.below) (hs.ext hE.below)
  clear hr hs
  go_enter Tryz.func52, Tryz.ntmps52
  go_wp2_with fail
  refine (h1 _ (by repeat (first | (with_reducible exact Ext.refl _) | (with_reducible assumption) | (with_reducible apply Ext.alloc) | (with_reducible apply Ext.drewN) | (with_reducible apply Ext.drew) | (with_reducible apply Ext.grow) | (with_reducible refine Ext.trans ?_ (by with_reducible assumption))))).mono ?_
  rintro e w1 ⟨rfl, hE⟩
  go_wp2_with fail
  go_ret
  exact ⟨rfl, (by repeat (first | (with_reducible exact Ext.refl _) | (with_reducible assumption) | (with_reducible apply Ext.alloc) | (with_reducible apply Ext.drewN) | (with_reducible apply Ext.drew) | (with_reducible apply Ext.grow) | (with_reducible refine Ext.trans ?_ (by with_reducible assumption))))⟩
theorem isFair_any (a : Int) (w : World) : Calls Tryz.prog 51 #[.int .i64 a] w fun e w' => e = .returned (.bool (fair a)) ∧ w = w' := by
  go_enter Tryz.func51, Tryz.ntmps51
  by_cases h1 : -4611686018427387904 ≤ a
  · go_wp2_with fail
    go_ret
    exact ⟨ret_bool (by simp [fair, h1]), rfl⟩
  · have : decide (-4611686018427387904 ≤ a) = false := by simpa using h1
    go_wp2_with fail
    go_ret
    exact ⟨ret_bool (by simp [fair]; omega), rfl⟩
end Go.Proofs.YtmpndmjfdijamaaGreatDoor
