/- The walks of slices.CompareFunc at values, row.Compare, and of the package zset as far as a multiset's soundness goes. The walk of zset.Sound. -/
import Derived.Test.YtflckpfpgpfjlaaGreatDoorMBase
set_option linter.unusedVariables false
set_option linter.unusedSimpArgs false
section
namespace Go.Proofs.YtflckpfpgpfjlaaGreatDoor
open Go.RowKit Go.Sort
theorem rcmp0_drop (r s : List GV) (k : Nat) (x y : GV) (hx : r[k]? = some x) (hy : s[k]? = some y) : rcmp0 (r.drop k) (s.drop k) = if vcmp x y ≠ 0 then vcmp x y else rcmp0 (r.drop (k + 1)) (s.drop (k + 1)) := by
  obtain ⟨h1, rfl⟩ := List.getElem?_eq_some_iff.1 hx
  obtain ⟨h2, rfl⟩ := List.getElem?_eq_some_iff.1 hy
  rw [List.drop_eq_getElem_cons h1, List.drop_eq_getElem_cons h2, rcmp0]
theorem rcmp0_short (r s : List GV) (k : Nat) (h1 : k < r.length) (h2 : s.length ≤ k) : rcmp0 (r.drop k) (s.drop k) = 1 := by
  rw [List.drop_eq_getElem_cons h1, List.drop_eq_nil_of_le h2]; rfl
theorem rcmp0_end (r s : List GV) (h : r.length ≤ s.length) : rcmp0 (r.drop r.length) (s.drop r.length) = if r.length < s.length then -1 else 0 := by
  rw [List.drop_length]
  by_cases h1 : r.length < s.length
  · rw [if_pos h1, List.drop_eq_getElem_cons h1]; rfl
  · rw [if_neg h1, List.drop_eq_nil_of_le (by omega)]; rfl
set_option maxHeartbeats 1000000 in
theorem cmpRows_any (v u : Value) (r s : List GV) (w : World) (hr : RdV w AnyB v r) (hs : RdV w AnyB u s) :
    Calls Tryz.prog 131 #[v, u, .func (.func 132) #[] #[]] w fun e w' => e = .returned (.int .i64 (rcmp0 r s)) ∧ Ext w w' := by
  obtain ⟨A, c, rfl, hc⟩ := hr.shape
  have hl := hr.len
  obtain ⟨B, d, rfl, hd⟩ := hs.shape
  have hm := hs.len
  have HR := As.mk hr
  have HS := As.mk hs
  clear hr hs
  go_enter Tryz.func131, Tryz.ntmps131
  go_wp2
  go_loopg [7, 8, 9, 10, 13] r.length (fun g _ _ _ _ s13 wr => ∃ k : Nat, k ≤ r.length ∧ k ≤ s.length ∧ r.length - k ≤ g ∧ s13 = .int .i64 k ∧ As (Ext w wr) ∧ As (rcmp0 (r.drop k) (s.drop k) = rcmp0 r s))
  case atStart => exact ⟨0, Nat.zero_le _, Nat.zero_le _, by omega, rfl, ⟨Ext.refl _⟩, ⟨rfl⟩⟩
  case round =>
    obtain ⟨k, hk, hks, hg, rfl, HE, HA⟩ := hrel
    by_cases hlt : k < r.length
    · have hltz : (k : Int) < (r.length : Int) := by omega
      obtain ⟨x, hx⟩ : ∃ x, r[k]? = some x := ⟨_, List.getElem?_eq_getElem hlt⟩
      obtain ⟨b, o, c', hv, hb, hok, c0, c1, c2, c3⟩ := RdV.val HR.out hx
      injection hv with hA _ hcc
      subst hA
      replace c0 := HE.out.cell c0; replace c1 := HE.out.cell c1; replace c2 := HE.out.cell c2; replace c3 := HE.out.cell c3
      by_cases hlt2 : k < s.length
      · have hltz2 : ¬ (s.length : Int) ≤ (k : Int) := by omega
        have hltz3 : (k : Int) < (s.length : Int) := by omega
        obtain ⟨y, hy⟩ : ∃ y, s[k]? = some y := ⟨_, List.getElem?_eq_getElem hlt2⟩
        obtain ⟨b2, o2, c2', hv2, hb2, hok2, d0, d1, d2, d3⟩ := RdV.val HS.out hy
        injection hv2 with hA2 _ hcc2
        subst hA2
        replace d0 := HE.out.cell d0; replace d1 := HE.out.cell d1; replace d2 := HE.out.cell d2; replace d3 := HE.out.cell d3
        have hb' : b < wr.heap.size := Nat.lt_of_lt_of_le hb HE.out.size
        have hb2' : b2 < wr.heap.size := Nat.lt_of_lt_of_le hb2 HE.out.size
        have s1 := fun W => vCompare_any x y W hok hok2
        have HD := As.mk (rcmp0_drop r s k x y hx hy)
        clear hx hy hcc hcc2 hok hok2 hb hb2
        generalize vcmp x y = q at *
        by_cases hq : q = 0
        · subst hq
          go_wp2_with (go_at_call 132; refine (s1 _).mono ?_; rintro e w1 ⟨rfl, hE⟩)
          go_roundg (r.length - (k + 1))
          case measure => omega
          case rel =>
            have HF : As (rcmp0 (r.drop (k + 1)) (s.drop (k + 1)) = rcmp0 r s) := ⟨by rw [← HA.out, HD.out]; simp⟩
            have hE0 := HE.out
            exact ⟨k + 1, by omega, by omega, by omega, by go_num, ⟨(by repeat (first | (with_reducible exact Ext.refl _) | (with_reducible assumption) | (with_reducible apply Ext.alloc) | (with_reducible apply Ext.drewN) | (with_reducible apply Ext.drew) | (with_reducible apply Ext.grow) | (with_reducible refine Ext.trans ?_ (by with_reducible assumption))))⟩, HF⟩
        · have hqb : (q != 0) = true := by simpa using hq
          go_wp2_with (go_at_call 132; refine (s1 _).mono ?_; rintro e w1 ⟨rfl, hE⟩)
          go_ret
          have hE0 := HE.out
          exact ⟨ret_int (by rw [← HA.out, HD.out, if_pos hq]), (by repeat (first | (with_reducible exact Ext.refl _) | (with_reducible assumption) | (with_reducible apply Ext.alloc) | (with_reducible apply Ext.drewN) | (with_reducible apply Ext.drew) | (with_reducible apply Ext.grow) | (with_reducible refine Ext.trans ?_ (by with_reducible assumption))))⟩
      · have hltz2 : (s.length : Int) ≤ (k : Int) := by omega
        have HD := As.mk (rcmp0_short r s k hlt (by omega))
        clear hx
        go_wp2
        go_ret
        have hE0 := HE.out
        exact ⟨ret_int (by rw [← HA.out, HD.out]), (by repeat (first | (with_reducible exact Ext.refl _) | (with_reducible assumption) | (with_reducible apply Ext.alloc) | (with_reducible apply Ext.drewN) | (with_reducible apply Ext.drew) | (with_reducible apply Ext.grow) | (with_reducible refine Ext.trans ?_ (by with_reducible assumption))))⟩
    · have hltz : ¬ (k : Int) < (r.length : Int) := by omega
      obtain rfl : k = r.length := by omega
      have HD := As.mk (rcmp0_end r s hks)
      by_cases h3 : r.length < s.length
      · have h3z : (r.length : Int) < (s.length : Int) := by omega
        go_wp2
        go_ret
        exact ⟨ret_int (by rw [← HA.out, HD.out, if_pos h3]), HE.out⟩
      · have h3z : ¬ (r.length : Int) < (s.length : Int) := by omega
        go_wp2
        go_ret
        exact ⟨ret_int (by rw [← HA.out, HD.out, if_neg h3]), HE.out⟩
theorem rCompare_any (v u : Value) (r s : List GV) (w : World) (hr : RdV w AnyB v r) (hs : RdV w AnyB u s) :
    Calls Tryz.prog 77 #[v, u] w fun e w' => e = .returned (.int .i64 (rcmp r s)) ∧ Ext w w' := by
  have h1 := fun W (hE : Ext w W) => rSound_any v r W (hr.ext hE.below)
  have h2 := fun W (hE : Ext w W) => rSound_any u s W (hs.ext hE.below)
  have h3 := fun W (hE : Ext w W) => cmpRows_any v u r s W (hr.ext hE.below) (hs.ext hE.below)
  obtain ⟨A, c, rfl, hc⟩ := hr.shape
  obtain ⟨B, d, rfl, hd⟩ := hs.shape
  have hv : rcmp r s = if rsound r = false ∨ rsound s = false then 0 else rcmp0 r s := rfl
  rw [hv]
  clear hv hr hs
  generalize rcmp0 r s = q at *
  generalize rsound s = b2 at *
  generalize rsound r = b1 at *
  cases b1
  · rw [if_pos (.inl rfl)]
    go_enter Tryz.func77, Tryz.ntmps77
    go_wp2_with fail
    refine (h1 _ (by repeat (first | (with_reducible exact Ext.refl _) | (with_reducible assumption) | (with_reducible apply Ext.alloc) | (with_reducible apply Ext.drewN) | (with_reducible apply Ext.drew) | (with_reducible apply Ext.grow) | (with_reducible refine Ext.trans ?_ (by with_reducible assumption))))).mono ?_
    rintro e w1 ⟨rfl, hE⟩
    go_wp2_with fail
    go_ret
    exact ⟨rfl, (by repeat (first | (with_reducible exact Ext.refl _) | (with_reducible assumption) | (with_reducible apply Ext.alloc) | (with_reducible apply Ext.drewN) | (with_reducible apply Ext.drew) | (with_reducible apply Ext.grow) | (with_reducible refine Ext.trans ?_ (by with_reducible assumption))))⟩
  · cases b2
    · rw [if_pos (.inr rfl)]
      go_enter Tryz.func77, Tryz.ntmps77
      go_wp2_with fail
      refine (h1 _ (by repeat (first | (with_reducible exact Ext.refl _) | (with_reducible assumption) | (with_reducible apply Ext.alloc) | (with_reducible apply Ext.drewN) | (with_reducible apply Ext.drew) | (with_reducible apply Ext.grow) | (with_reducible refine Ext.trans ?_ (by with_reducible assumption))))).mono ?_
      rintro e w1 ⟨rfl, hE⟩
      go_wp2_with fail
      refine (h2 _ (by repeat (first | (with_reducible exact Ext.refl _) | (with_reducible assumption) | (with_reducible apply Ext.alloc) | (with_reducible apply Ext.drewN) | (with_reducible apply Ext.drew) | (with_reducible apply Ext.grow) | (with_reducible refine Ext.trans ?_ (by with_reducible assumption))))).mono ?_
      rintro e w2 ⟨rfl, hE2⟩
      go_wp2_with fail
      go_ret
      exact ⟨rfl, (by repeat (first | (with_reducible exact Ext.refl _) | (with_reducible assumption) | (with_reducible apply Ext.alloc) | (with_reducible apply Ext.drewN) | (with_reducible apply Ext.drew) | (with_reducible apply Ext.grow) | (with_reducible refine Ext.trans ?_ (by with_reducible assumption))))⟩
    · rw [if_neg (by simp)]
      go_enter Tryz.func77, Tryz.ntmps77
      go_wp2_with fail
      refine (h1 _ (by repeat (first | (with_reducible exact Ext.refl _) | (with_reducible assumption) | (with_reducible apply Ext.alloc) | (with_reducible apply Ext.drewN) | (with_reducible apply Ext.drew) | (with_reducible apply Ext.grow) | (with_reducible refine Ext.trans ?_ (by with_reducible assumption))))).mono ?_
      rintro e w1 ⟨rfl, hE⟩
      go_wp2_with fail
      refine (h2 _ (by repeat (first | (with_reducible exact Ext.refl _) | (with_reducible assumption) | (with_reducible apply Ext.alloc) | (with_reducible apply Ext.drewN) | (with_reducible apply Ext.drew) | (with_reducible apply Ext.grow) | (with_reducible refine Ext.trans ?_ (by with_reducible assumption))))).mono ?_
      rintro e w2 ⟨rfl, hE2⟩
      go_wp2_with fail
      refine (h3 _ (by repeat (first | (with_reducible exact Ext.refl _) | (with_reducible assumption) | (with_reducible apply Ext.alloc) | (with_reducible apply Ext.drewN) | (with_reducible apply Ext.drew) | (with_reducible apply Ext.grow) | (with_reducible refine Ext.trans ?_ (by with_reducible assumption))))).mono ?_
      rintro e w3 ⟨rfl, hE3⟩
      go_wp2_with fail
      go_ret
      exact ⟨rfl, (by repeat (first | (with_reducible exact Ext.refl _) | (with_reducible assumption) | (with_reducible apply Ext.alloc) | (with_reducible apply Ext.drewN) | (with_reducible apply Ext.drew) | (with_reducible apply Ext.grow) | (with_reducible refine Ext.trans ?_ (by with_reducible assumption))))⟩
theorem byRow_any (A B : Option Addr) (c d : Nat) (a b : Int) (r s : List GV) (w : World) (hr : RdV w AnyB (.slice A r.length c) r) (hs : RdV w AnyB (.slice B s.length d) s) :
    Calls Tryz.prog 57 #[.agg #[.slice A r.length c, .int .i64 a], .agg #[.slice B s.length d, .int .i64 b]] w fun e w' => e = .returned (.int .i64 (rcmp r s)) ∧ Ext w w' := by
  have h1 := fun W (hE : Ext w W) => rCompare_any _ _ r s W (hr.ext hE.below) (hs.ext hE.below)
  clear hr hs
  go_enter Tryz.func57, Tryz.ntmps57
  go_wp2_with fail
  refine (h1 _ (by repeat (first | (with_reducible exact Ext.refl _) | (with_reducible assumption) | (with_reducible apply Ext.alloc) | (with_reducible apply Ext.drewN) | (with_reducible apply Ext.drew) | (with_reducible apply Ext.grow) | (with_reducible refine Ext.trans ?_ (by with_reducible assumption))))).mono ?_
  rintro e w1 ⟨rfl, hE⟩
  go_wp2_with fail
  go_ret
  exact ⟨rfl, (by repeat (first | (with_reducible exact Ext.refl _) | (with_reducible assumption) | (with_reducible apply Ext.alloc) | (with_reducible apply Ext.drewN) | (with_reducible apply Ext.drew) | (with_reducible apply Ext.grow) | (with_reducible refine Ext.trans ?_ (by with_reducible assumption))))⟩
theorem isFair_any (a : Int) (w : World) : Calls Tryz.prog 53 #[.int .i64 a] w fun e w' => e = .returned (.bool (fair a)) ∧ w = w' := by
  go_enter Tryz.func53, Tryz.ntmps53
  by_cases h1 : -4611686018427387904 ≤ a
  · go_wp2_with fail
    go_ret
    exact ⟨ret_bool (by simp [fair, h1]), rfl⟩
  · have : decide (-4611686018427387904 ≤ a) = false := by simpa using h1
    go_wp2_with fail
    go_ret
    exact ⟨ret_bool (by simp [fair]; omega), rfl⟩
end Go.Proofs.YtflckpfpgpfjlaaGreatDoor
end
section
namespace Go.Proofs.YtflckpfpgpfjlaaGreatDoor
open Go.RowKit Go.Sort
/-- The entry ahead of place k. -/
def prev (z : List GE) : Nat → Option GE
  | 0 => none
  | k + 1 => z[k]?
theorem zsound0_step (z : List GE) (k : Nat) (x : GE) (h : z[k]? = some x) : zsound0 (prev z k) (z.drop k) = (entOk (prev z k) x && zsound0 (prev z (k + 1)) (z.drop (k + 1))) := by
  obtain ⟨h1, rfl⟩ := List.getElem?_eq_some_iff.1 h
  rw [List.drop_eq_getElem_cons h1, zsound0]
  simp [prev, h]
set_option maxHeartbeats 4000000 in
theorem zSound_any (v : Value) (z : List GE) (w : World) (hz : RdZ w AnyB v z) :
    Calls Tryz.prog 37 #[v] w fun e w' => e = .returned (.bool (zsound z)) ∧ Ext w w' := by
  have mixed := mixed
  obtain ⟨A, c, rfl, hc⟩ := hz.shape
  have hl := hz.len
  have HR := As.mk hz
  clear hz
  go_enter Tryz.func37, Tryz.ntmps37
  go_wp2
  go_loopg [3, 4, 7] z.length (fun g _ _ s7 wr => ∃ k : Nat, k ≤ z.length ∧ z.length - k ≤ g ∧ s7 = .int .i64 k ∧ As (Ext w wr) ∧ As (zsound0 (prev z k) (z.drop k) = zsound z))
  case atStart => exact ⟨0, Nat.zero_le _, by omega, rfl, ⟨Ext.refl _⟩, ⟨rfl⟩⟩
  case round =>
    obtain ⟨k, hk, hg, rfl, HE, HA⟩ := hrel
    by_cases hlt : k < z.length
    · have hltz : (k : Int) < (z.length : Int) := by omega
      obtain ⟨x, hx⟩ : ∃ x, z[k]? = some x := ⟨_, List.getElem?_eq_getElem hlt⟩
      have HX := As.mk hx
      have HS := As.mk (zsound0_step z k x hx)
      obtain ⟨b, o, c', A0, d0, hv, hb, hxi, hrx, e0, e1⟩ := RdZ.ent HR.out hx
      injection hv with hA _ hcc
      subst hA
      replace e0 := HE.out.cell e0; replace e1 := HE.out.cell e1
      have HRX := As.mk hrx
      clear hx hcc hrx
      obtain ⟨xr, xw⟩ := x
      simp only at *
      have hE0 := HE.out
      have f1 := fun W => isFair_any xw W
      have f2 := fun W (hE : Ext w W) => rSound_any _ xr W (HRX.out.ext hE.below)
      have HS' : As (zsound z = ((!(xw == 0) && fair xw && rsound xr && (match prev z k with | none => true | some y => decide (rcmp y.row xr < 0))) && zsound0 (prev z (k + 1)) (z.drop (k + 1)))) := ⟨by rw [← HA.out, HS.out]; rfl⟩
      clear HS
      generalize hfx : fair xw = fx at *
      generalize hrx : rsound xr = rx at *
      clear hfx hrx
      by_cases h0 : xw = 0
      · subst h0
        go_wp2
        have g1 : ∀ m os, (grow ((wr.alloc (Obj.cells #[Value.slice A0 xr.length d0, Value.int IntKind.i64 0] 66)).drewN m) os).cell? ⟨wr.heap.size, 1, none⟩ = some (.int .i64 0) := fun m os => Ext.cell ⟨m, os, rfl⟩ (by simp)
        generalize hW1 : wr.alloc (Obj.cells #[Value.slice A0 xr.length d0, Value.int IntKind.i64 0] 66) = W1 at *
        have hW : Ext w W1 := hW1 ▸ (by repeat (first | (with_reducible exact Ext.refl _) | (with_reducible assumption) | (with_reducible apply Ext.alloc) | (with_reducible apply Ext.drewN) | (with_reducible apply Ext.drew) | (with_reducible apply Ext.grow) | (with_reducible refine Ext.trans ?_ (by with_reducible assumption))))
        clear hW1
        (refine wp_region_quiet_grown (by assumption) (by kernel_rfl) ?_; (repeat (go_big_quiet_step ( fail ))); refine wpQuiet_nil ?_; intro _ hw'; obtain ⟨⟨nq, osq⟩, hw''⟩ := hw'; subst hw'')
        go_wp2
        go_ret
        exact ⟨ret_bool (by rw [HS'.out]; simp), (by repeat (first | (with_reducible exact Ext.refl _) | (with_reducible assumption) | (with_reducible apply Ext.alloc) | (with_reducible apply Ext.drewN) | (with_reducible apply Ext.drew) | (with_reducible apply Ext.grow) | (with_reducible refine Ext.trans ?_ (by with_reducible assumption))))⟩
      have h0b : (xw == 0) = false := by simpa using h0
      cases fx
      · go_wp2
        have g1 : ∀ m os, (grow ((wr.alloc (Obj.cells #[Value.slice A0 xr.length d0, Value.int IntKind.i64 xw] 66)).drewN m) os).cell? ⟨wr.heap.size, 1, none⟩ = some (.int .i64 xw) := fun m os => Ext.cell ⟨m, os, rfl⟩ (by simp)
        generalize hW1 : wr.alloc (Obj.cells #[Value.slice A0 xr.length d0, Value.int IntKind.i64 xw] 66) = W1 at *
        have hW : Ext w W1 := hW1 ▸ (by repeat (first | (with_reducible exact Ext.refl _) | (with_reducible assumption) | (with_reducible apply Ext.alloc) | (with_reducible apply Ext.drewN) | (with_reducible apply Ext.drew) | (with_reducible apply Ext.grow) | (with_reducible refine Ext.trans ?_ (by with_reducible assumption))))
        clear hW1
        (refine wp_region_quiet_grown (by assumption) (by kernel_rfl) ?_; (repeat (go_big_quiet_step ( (go_at_call 53; exact grown_ext ((f1 _).mono fun _ _ ⟨he, hw⟩ => ⟨he, hw ▸ Ext.refl _⟩)) ))); refine wpQuiet_nil ?_; intro _ hw'; obtain ⟨⟨nq, osq⟩, hw''⟩ := hw'; subst hw'')
        go_wp2
        go_ret
        exact ⟨ret_bool (by rw [HS'.out]; simp), (by repeat (first | (with_reducible exact Ext.refl _) | (with_reducible assumption) | (with_reducible apply Ext.alloc) | (with_reducible apply Ext.drewN) | (with_reducible apply Ext.drew) | (with_reducible apply Ext.grow) | (with_reducible refine Ext.trans ?_ (by with_reducible assumption))))⟩
      cases rx
      · go_wp2
        have g1 : ∀ m os, (grow ((wr.alloc (Obj.cells #[Value.slice A0 xr.length d0, Value.int IntKind.i64 xw] 66)).drewN m) os).cell? ⟨wr.heap.size, 1, none⟩ = some (.int .i64 xw) := fun m os => Ext.cell ⟨m, os, rfl⟩ (by simp)
        have g0 : ∀ m os, (grow ((wr.alloc (Obj.cells #[Value.slice A0 xr.length d0, Value.int IntKind.i64 xw] 66)).drewN m) os).cell? ⟨wr.heap.size, 0, none⟩ = some (.slice A0 xr.length d0) := fun m os => Ext.cell ⟨m, os, rfl⟩ (by simp)
        generalize hW1 : wr.alloc (Obj.cells #[Value.slice A0 xr.length d0, Value.int IntKind.i64 xw] 66) = W1 at *
        have hW : Ext w W1 := hW1 ▸ (by repeat (first | (with_reducible exact Ext.refl _) | (with_reducible assumption) | (with_reducible apply Ext.alloc) | (with_reducible apply Ext.drewN) | (with_reducible apply Ext.drew) | (with_reducible apply Ext.grow) | (with_reducible refine Ext.trans ?_ (by with_reducible assumption))))
        clear hW1
        (refine wp_region_quiet_grown (by assumption) (by kernel_rfl) ?_; (repeat (go_big_quiet_step ( first | (go_at_call 53; exact grown_ext ((f1 _).mono fun _ _ ⟨he, hw⟩ => ⟨he, hw ▸ Ext.refl _⟩)) | (go_at_call 54; exact grown_ext (f2 _ (Ext.grow hW _ _))) ))); refine wpQuiet_nil ?_; intro _ hw'; obtain ⟨⟨nq, osq⟩, hw''⟩ := hw'; subst hw'')
        go_wp2
        go_ret
        exact ⟨ret_bool (by rw [HS'.out]; simp), (by repeat (first | (with_reducible exact Ext.refl _) | (with_reducible assumption) | (with_reducible apply Ext.alloc) | (with_reducible apply Ext.drewN) | (with_reducible apply Ext.drew) | (with_reducible apply Ext.grow) | (with_reducible refine Ext.trans ?_ (by with_reducible assumption))))⟩
      cases k with
      | zero =>
        simp only [Nat.zero_mul, Nat.add_zero] at e0 e1
        go_wp2
        have g1 : ∀ m os, (grow ((wr.alloc (Obj.cells #[Value.slice A0 xr.length d0, Value.int IntKind.i64 xw] 66)).drewN m) os).cell? ⟨wr.heap.size, 1, none⟩ = some (.int .i64 xw) := fun m os => Ext.cell ⟨m, os, rfl⟩ (by simp)
        have g0 : ∀ m os, (grow ((wr.alloc (Obj.cells #[Value.slice A0 xr.length d0, Value.int IntKind.i64 xw] 66)).drewN m) os).cell? ⟨wr.heap.size, 0, none⟩ = some (.slice A0 xr.length d0) := fun m os => Ext.cell ⟨m, os, rfl⟩ (by simp)
        generalize hW1 : wr.alloc (Obj.cells #[Value.slice A0 xr.length d0, Value.int IntKind.i64 xw] 66) = W1 at *
        have hW : Ext w W1 := hW1 ▸ (by repeat (first | (with_reducible exact Ext.refl _) | (with_reducible assumption) | (with_reducible apply Ext.alloc) | (with_reducible apply Ext.drewN) | (with_reducible apply Ext.drew) | (with_reducible apply Ext.grow) | (with_reducible refine Ext.trans ?_ (by with_reducible assumption))))
        clear hW1
        (refine wp_region_quiet_grown (by assumption) (by kernel_rfl) ?_; (repeat (go_big_quiet_step ( first | (go_at_call 53; exact grown_ext ((f1 _).mono fun _ _ ⟨he, hw⟩ => ⟨he, hw ▸ Ext.refl _⟩)) | (go_at_call 54; exact grown_ext (f2 _ (Ext.grow hW _ _))) ))); refine wpQuiet_nil ?_; intro _ hw'; obtain ⟨⟨nq, osq⟩, hw''⟩ := hw'; subst hw'')
        go_wp2
        go_roundg (z.length - 1)
        case measure => omega
        case rel => exact ⟨1, by omega, by omega, by go_num, ⟨(by repeat (first | (with_reducible exact Ext.refl _) | (with_reducible assumption) | (with_reducible apply Ext.alloc) | (with_reducible apply Ext.drewN) | (with_reducible apply Ext.drew) | (with_reducible apply Ext.grow) | (with_reducible refine Ext.trans ?_ (by with_reducible assumption))))⟩, ⟨by rw [HS'.out]; simp [prev, h0]⟩⟩
      | succ k =>
        obtain ⟨y, hy⟩ : ∃ y, z[k]? = some y := ⟨_, List.getElem?_eq_getElem (by omega)⟩
        have HY : As (prev z (k + 1) = some y) := ⟨hy⟩
        obtain ⟨b', o', c', A1, d1, hv, hb', hyi, hry, p0, p1⟩ := RdZ.ent HR.out hy
        injection hv with hA _ hcc
        injection hA with hA
        injection hA with h1 h2 _
        subst h1 h2
        have HRY := As.mk hry
        obtain ⟨yr, yw⟩ := y
        simp only at *
        have f3 := fun W (hE : Ext w W) => byRow_any A1 A0 d1 d0 yw xw yr xr W (HRY.out.ext hE.below) (HRX.out.ext hE.below)
        clear hy hry hcc
        have hk1 : IntKind.i64.wrap ((k : Int) + 1 - 1) = (k : Int) := by rw [IntKind.wrap_i64]; omega
        have HS2 : As (zsound z = (decide (rcmp yr xr < 0) && zsound0 (prev z (k + 1 + 1)) (z.drop (k + 1 + 1)))) := ⟨by rw [HS'.out, HY.out]; simp [h0b]⟩
        clear HS'
        generalize rcmp yr xr = q at *
        have q0 : ∀ m os, (grow ((wr.alloc (Obj.cells #[Value.slice A0 xr.length d0, Value.int IntKind.i64 xw] 66)).drewN m) os).cell? ⟨b, o + k * 2, none⟩ = some (.slice A1 yr.length d1) := fun m os => Ext.cell (Ext.grow (Ext.alloc hE0 _) m os) p0
        have q1 : ∀ m os, (grow ((wr.alloc (Obj.cells #[Value.slice A0 xr.length d0, Value.int IntKind.i64 xw] 66)).drewN m) os).cell? ⟨b, o + k * 2 + 1, none⟩ = some (.int .i64 yw) := fun m os => Ext.cell (Ext.grow (Ext.alloc hE0 _) m os) p1
        have g1 : ∀ m os, (grow ((wr.alloc (Obj.cells #[Value.slice A0 xr.length d0, Value.int IntKind.i64 xw] 66)).drewN m) os).cell? ⟨wr.heap.size, 1, none⟩ = some (.int .i64 xw) := fun m os => Ext.cell ⟨m, os, rfl⟩ (by simp)
        have g0 : ∀ m os, (grow ((wr.alloc (Obj.cells #[Value.slice A0 xr.length d0, Value.int IntKind.i64 xw] 66)).drewN m) os).cell? ⟨wr.heap.size, 0, none⟩ = some (.slice A0 xr.length d0) := fun m os => Ext.cell ⟨m, os, rfl⟩ (by simp)
        have kz : (0 : Int) < (k : Int) + 1 := by omega
        have kz1 : (0 : Int) ≤ (k : Int) := by omega
        have kz2 : (k : Int) < (z.length : Int) := by omega
        have kz3 : ((k : Int)).toNat = k := by omega
        go_wp2
        generalize hW1 : wr.alloc (Obj.cells #[Value.slice A0 xr.length d0, Value.int IntKind.i64 xw] 66) = W1 at *
        have hW : Ext w W1 := hW1 ▸ (by repeat (first | (with_reducible exact Ext.refl _) | (with_reducible assumption) | (with_reducible apply Ext.alloc) | (with_reducible apply Ext.drewN) | (with_reducible apply Ext.drew) | (with_reducible apply Ext.grow) | (with_reducible refine Ext.trans ?_ (by with_reducible assumption))))
        clear hW1
        (refine wp_region_quiet_grown (by assumption) (by kernel_rfl) ?_; (repeat (go_big_quiet_step ( first | (go_at_call 53; exact grown_ext ((f1 _).mono fun _ _ ⟨he, hw⟩ => ⟨he, hw ▸ Ext.refl _⟩)) | (go_at_call 54; exact grown_ext (f2 _ (Ext.grow hW _ _))) | (go_at_call 57; exact grown_ext (f3 _ (Ext.grow hW _ _))) ))); refine wpQuiet_nil ?_; intro _ hw'; obtain ⟨⟨nq, osq⟩, hw''⟩ := hw'; subst hw'')
        go_wp2
        · go_ret
          have : 0 ≤ q := by assumption
          exact ⟨ret_bool (by rw [HS2.out]; simp; omega), (by repeat (first | (with_reducible exact Ext.refl _) | (with_reducible assumption) | (with_reducible apply Ext.alloc) | (with_reducible apply Ext.drewN) | (with_reducible apply Ext.drew) | (with_reducible apply Ext.grow) | (with_reducible refine Ext.trans ?_ (by with_reducible assumption))))⟩
        · go_roundg (z.length - (k + 1 + 1))
          case measure => omega
          case rel =>
            have : q < 0 := by assumption
            exact ⟨k + 1 + 1, by omega, by omega, by go_num, ⟨(by repeat (first | (with_reducible exact Ext.refl _) | (with_reducible assumption) | (with_reducible apply Ext.alloc) | (with_reducible apply Ext.drewN) | (with_reducible apply Ext.drew) | (with_reducible apply Ext.grow) | (with_reducible refine Ext.trans ?_ (by with_reducible assumption))))⟩, ⟨by rw [HS2.out]; simp [this]⟩⟩
    · have hltz : ¬ (k : Int) < (z.length : Int) := by omega
      have hE0 := HE.out
      go_wp2
      go_ret
      exact ⟨ret_bool (by rw [← HA.out, List.drop_eq_nil_of_le (by omega)]; simp [zsound0]), (by repeat (first | (with_reducible exact Ext.refl _) | (with_reducible assumption) | (with_reducible apply Ext.alloc) | (with_reducible apply Ext.drewN) | (with_reducible apply Ext.drew) | (with_reducible apply Ext.grow) | (with_reducible refine Ext.trans ?_ (by with_reducible assumption))))⟩
end Go.Proofs.YtflckpfpgpfjlaaGreatDoor
end
