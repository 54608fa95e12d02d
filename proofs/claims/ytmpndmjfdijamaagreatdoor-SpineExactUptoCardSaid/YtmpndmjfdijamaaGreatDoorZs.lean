/- The walk of zset.Sound. -/
import Derived.Test.YtmpndmjfdijamaaGreatDoorCmp
set_option linter.unusedVariables false
set_option linter.unusedSimpArgs false
namespace Go.Proofs.YtmpndmjfdijamaaGreatDoor
open Go.RowKit Go.Sort
/-- The entry ahead of place k. -/
def prev (z : List GE) : Nat → Option GE
  | 0 => none
  | k + 1 => z[k]?
theorem zsound0_step (z : List GE) (k : Nat) (x : GE) (h : z[k]? = some x) : zsound0 (prev z k) (z.drop k) = (entOk (prev z k) x && zsound0 (prev z (k + 1)) (z.drop (k + 1))) := by
  obtain ⟨h1, rfl⟩ := List.getElem?_eq_some_iff.1 h
  rw [List.drop_eq_getElem_cons h1, zsound0]
  simp [prev, h]
set_option maxHeartbeats 4000000 in
theorem zSound_any (v : Value) (z : List GE) (w : World) (hz : RdZ w AnyB v z) :
    Calls Tryz.prog 25 #[v] w fun e w' => e = .returned (.bool (zsound z)) ∧ Ext w w' := by
  have mixed := mixed
  obtain ⟨A, c, rfl, hc⟩ := hz.shape
  have hl := hz.len
  have HR := As.mk hz
  clear hz
  go_enter Tryz.func25, Tryz.ntmps25
  go_wp2
  go_loopg [3, 4, 7] z.length (fun g _ _ s7 wr => ∃ k : Nat, k ≤ z.length ∧ z.length - k ≤ g ∧ s7 = .int .i64 k ∧ As (Ext w wr) ∧ As (zsound0 (prev z k) (z.drop k) = zsound z))
  case atStart => exact ⟨0, Nat.zero_le _, by omega, rfl, ⟨Ext.refl _⟩, ⟨rfl⟩⟩
  case round =>
    obtain ⟨k, hk, hg, rfl, HE, HA⟩ := hrel
    by_cases hlt : k < z.length
    · have hltz : (k : Int) < (z.length : Int) := by omega
      obtain ⟨x, hx⟩ : ∃ x, z[k]? = some x := ⟨_, List.getElem?_eq_getElem hlt⟩
      have HX := As.mk hx
      have HS := As.mk (zsound0_step z k x hx)
      obtain ⟨b, o, c', A0, d0, hv, hb, hxi, hrx, e0, e1⟩ := RdZ.ent HR.out hx
      injection hv with hA _ hcc
      subst hA
      replace e0 := HE.out.cell e0; replace e1 := HE.out.cell e1
      have HRX := As.mk hrx
      clear hx hcc hrx
      obtain ⟨xr, xw⟩ := x
      simp only at *
      have hE0 := HE.out
      have f1 := fun W => isFair_any xw W
      have f2 := fun W (hE : Ext w W) => rSound_any _ xr W (HRX.out.ext hE.below)
      have HS' : As (zsound z = ((!(xw == 0) && fair xw && rsound xr && (match prev z k with | none => true | some y => decide (rcmp y.row xr < 0))) && zsound0 (prev z (k + 1)) (z.drop (k + 1)))) := ⟨by rw [← HA.out, HS.out]; rfl⟩
      clear HS
      generalize hfx : fair xw = fx at *
      generalize hrx : rsound xr = rx at *
      clear hfx hrx
      by_cases h0 : xw = 0
      · subst h0
        go_wp2
        have g1 : ∀ m os, (grow ((wr.alloc (Obj.cells #[Value.slice A0 xr.length d0, Value.int IntKind.i64 0] 47)).drewN m) os).cell? ⟨wr.heap.size, 1, none⟩ = some (.int .i64 0) := fun m os => Ext.cell ⟨m, os, rfl⟩ (by simp)
        generalize hW1 : wr.alloc (Obj.cells #[Value.slice A0 xr.length d0, Value.int IntKind.i64 0] 47) = W1 at *
        have hW : Ext w W1 := hW1 ▸ (by repeat (first | (with_reducible exact Ext.refl _) | (with_reducible assumption) | (with_reducible apply Ext.alloc) | (with_reducible apply Ext.drewN) | (with_reducible apply Ext.drew) | (with_reducible apply Ext.grow) | (with_reducible refine Ext.trans ?_ (by with_reducible assumption))))
        clear hW1
        (refine wp_region_quiet_grown (by assumption) (by kernel_rfl) ?_; (repeat (go_big_quiet_step ( fail ))); refine wpQuiet_nil ?_; intro _ hw'; obtain ⟨⟨nq, osq⟩, hw''⟩ := hw'; subst hw'')
        go_wp2
        go_ret
        exact ⟨ret_bool (by rw [HS'.out]; simp), (by repeat (first | (with_reducible exact Ext.refl _) | (with_reducible assumption) | (with_reducible apply Ext.alloc) | (with_reducible apply Ext.drewN) | (with_reducible apply Ext.drew) | (with_reducible apply Ext.grow) | (with_reducible refine Ext.trans ?_ (by with_reducible assumption))))⟩
      have h0b : (xw == 0) = false := by simpa using h0
      cases fx
      · go_wp2
        have g1 : ∀ m os, (grow ((wr.alloc (Obj.cells #[Value.slice A0 xr.length d0, Value.int IntKind.i64 xw] 47)).drewN m) os).cell? ⟨wr.heap.size, 1, none⟩ = some (.int .i64 xw) := fun m os => Ext.cell ⟨m, os, rfl⟩ (by simp)
        generalize hW1 : wr.alloc (Obj.cells #[Value.slice A0 xr.length d0, Value.int IntKind.i64 xw] 47) = W1 at *
        have hW : Ext w W1 := hW1 ▸ (by repeat (first | (with_reducible exact Ext.refl _) | (with_reducible assumption) | (with_reducible apply Ext.alloc) | (with_reducible apply Ext.drewN) | (with_reducible apply Ext.drew) | (with_reducible apply Ext.grow) | (with_reducible refine Ext.trans ?_ (by with_reducible assumption))))
        clear hW1
        (refine wp_region_quiet_grown (by assumption) (by kernel_rfl) ?_; (repeat (go_big_quiet_step ( (go_at_call 51; exact grown_ext ((f1 _).mono fun _ _ ⟨he, hw⟩ => ⟨he, hw ▸ Ext.refl _⟩)) ))); refine wpQuiet_nil ?_; intro _ hw'; obtain ⟨⟨nq, osq⟩, hw''⟩ := hw'; subst hw'')
        go_wp2
        go_ret
        exact ⟨ret_bool (by rw [HS'.out]; simp), (by repeat (first | (with_reducible exact Ext.refl _) | (with_reducible assumption) | (with_reducible apply Ext.alloc) | (with_reducible apply Ext.drewN) | (with_reducible apply Ext.drew) | (with_reducible apply Ext.grow) | (with_reducible refine Ext.trans ?_ (by with_reducible assumption))))⟩
      cases rx
      · go_wp2
        have g1 : ∀ m os, (grow ((wr.alloc (Obj.cells #[Value.slice A0 xr.length d0, Value.int IntKind.i64 xw] 47)).drewN m) os).cell? ⟨wr.heap.size, 1, none⟩ = some (.int .i64 xw) := fun m os => Ext.cell ⟨m, os, rfl⟩ (by simp)
        have g0 : ∀ m os, (grow ((wr.alloc (Obj.cells #[Value.slice A0 xr.length d0, Value.int IntKind.i64 xw] 47)).drewN m) os).cell? ⟨wr.heap.size, 0, none⟩ = some (.slice A0 xr.length d0) := fun m os => Ext.cell ⟨m, os, rfl⟩ (by simp)
        generalize hW1 : wr.alloc (Obj.cells #[Value.slice A0 xr.length d0, Value.int IntKind.i64 xw] 47) = W1 at *
        have hW : Ext w W1 := hW1 ▸ (by repeat (first | (with_reducible exact Ext.refl _) | (with_reducible assumption) | (with_reducible apply Ext.alloc) | (with_reducible apply Ext.drewN) | (with_reducible apply Ext.drew) | (with_reducible apply Ext.grow) | (with_reducible refine Ext.trans ?_ (by with_reducible assumption))))
        clear hW1
        (refine wp_region_quiet_grown (by assumption) (by kernel_rfl) ?_; (repeat (go_big_quiet_step ( first | (go_at_call 51; exact grown_ext ((f1 _).mono fun _ _ ⟨he, hw⟩ => ⟨he, hw ▸ Ext.refl _⟩)) | (go_at_call 41; exact grown_ext (f2 _ (Ext.grow hW _ _))) ))); refine wpQuiet_nil ?_; intro _ hw'; obtain ⟨⟨nq, osq⟩, hw''⟩ := hw'; subst hw'')
        go_wp2
        go_ret
        exact ⟨ret_bool (by rw [HS'.out]; simp), (by repeat (first | (with_reducible exact Ext.refl _) | (with_reducible assumption) | (with_reducible apply Ext.alloc) | (with_reducible apply Ext.drewN) | (with_reducible apply Ext.drew) | (with_reducible apply Ext.grow) | (with_reducible refine Ext.trans ?_ (by with_reducible assumption))))⟩
      cases k with
      | zero =>
        simp only [Nat.zero_mul, Nat.add_zero] at e0 e1
        go_wp2
        have g1 : ∀ m os, (grow ((wr.alloc (Obj.cells #[Value.slice A0 xr.length d0, Value.int IntKind.i64 xw] 47)).drewN m) os).cell? ⟨wr.heap.size, 1, none⟩ = some (.int .i64 xw) := fun m os => Ext.cell ⟨m, os, rfl⟩ (by simp)
        have g0 : ∀ m os, (grow ((wr.alloc (Obj.cells #[Value.slice A0 xr.length d0, Value.int IntKind.i64 xw] 47)).drewN m) os).cell? ⟨wr.heap.size, 0, none⟩ = some (.slice A0 xr.length d0) := fun m os => Ext.cell ⟨m, os, rfl⟩ (by simp)
        generalize hW1 : wr.alloc (Obj.cells #[Value.slice A0 xr.length d0, Value.int IntKind.i64 xw] 47) = W1 at *
        have hW : Ext w W1 := hW1 ▸ (by repeat (first | (with_reducible exact Ext.refl _) | (with_reducible assumption) | (with_reducible apply Ext.alloc) | (with_reducible apply Ext.drewN) | (with_reducible apply Ext.drew) | (with_reducible apply Ext.grow) | (with_reducible refine Ext.trans ?_ (by with_reducible assumption))))
        clear hW1
        (refine wp_region_quiet_grown (by assumption) (by kernel_rfl) ?_; (repeat (go_big_quiet_step ( first | (go_at_call 51; exact grown_ext ((f1 _).mono fun _ _ ⟨he, hw⟩ => ⟨he, hw ▸ Ext.refl _⟩)) | (go_at_call 41; exact grown_ext (f2 _ (Ext.grow hW _ _))) ))); refine wpQuiet_nil ?_; intro _ hw'; obtain ⟨⟨nq, osq⟩, hw''⟩ := hw'; subst hw'')
        go_wp2
        go_roundg (z.length - 1)
        case measure => omega
        case rel => exact ⟨1, by omega, by omega, by go_num, ⟨(by repeat (first | (with_reducible exact Ext.refl _) | (with_reducible assumption) | (with_reducible apply Ext.alloc) | (with_reducible apply Ext.drewN) | (with_reducible apply Ext.drew) | (with_reducible apply Ext.grow) | (with_reducible refine Ext.trans ?_ (by with_reducible assumption))))⟩, ⟨by rw [HS'.out]; simp [prev, h0]⟩⟩
      | succ k =>
        obtain ⟨y, hy⟩ : ∃ y, z[k]? = some y := ⟨_, List.getElem?_eq_getElem (by omega)⟩
        have HY : As (prev z (k + 1) = some y) := ⟨hy⟩
        obtain ⟨b', o', c', A1, d1, hv, hb', hyi, hry, p0, p1⟩ := RdZ.ent HR.out hy
        injection hv with hA _ hcc
        injection hA with hA
        injection hA with h1 h2 _
        subst h1 h2
        have HRY := As.mk hry
        obtain ⟨yr, yw⟩ := y
        simp only at *
        have f3 := fun W (hE : Ext w W) => byRow_any A1 A0 d1 d0 yw xw yr xr W (HRY.out.ext hE.below) (HRX.out.ext hE.below)
        clear hy hry hcc
        have hk1 : IntKind.i64.wrap ((k : Int) + 1 - 1) = (k : Int) := by rw [IntKind.wrap_i64]; omega
        have HS2 : As (zsound z = (decide (rcmp yr xr < 0) && zsound0 (prev z (k + 1 + 1)) (z.drop (k + 1 + 1)))) := ⟨by rw [HS'.out, HY.out]; simp [h0b]⟩
        clear HS'
        generalize rcmp yr xr = q at *
        have q0 : ∀ m os, (grow ((wr.alloc (Obj.cells #[Value.slice A0 xr.length d0, Value.int IntKind.i64 xw] 47)).drewN m) os).cell? ⟨b, o + k * 2, none⟩ = some (.slice A1 yr.length d1) := fun m os => Ext.cell (Ext.grow (Ext.alloc hE0 _) m os) p0
        have q1 : ∀ m os, (grow ((wr.alloc (Obj.cells #[Value.slice A0 xr.length d0, Value.int IntKind.i64 xw] 47)).drewN m) os).cell? ⟨b, o + k * 2 + 1, none⟩ = some (.int .i64 yw) := fun m os => Ext.cell (Ext.grow (Ext.alloc hE0 _) m os) p1
        have g1 : ∀ m os, (grow ((wr.alloc (Obj.cells #[Value.slice A0 xr.length d0, Value.int IntKind.i64 xw] 47)).drewN m) os).cell? ⟨wr.heap.size, 1, none⟩ = some (.int .i64 xw) := fun m os => Ext.cell ⟨m, os, rfl⟩ (by simp)
        have g0 : ∀ m os, (grow ((wr.alloc (Obj.cells #[Value.slice A0 xr.length d0, Value.int IntKind.i64 xw] 47)).drewN m) os).cell? ⟨wr.heap.size, 0, none⟩ = some (.slice A0 xr.length d0) := fun m os => Ext.cell ⟨m, os, rfl⟩ (by simp)
        have kz : (0 : Int) < (k : Int) + 1 := by omega
        have kz1 : (0 : Int) ≤ (k : Int) := by omega
        have kz2 : (k : Int) < (z.length : Int) := by omega
        have kz3 : ((k : Int)).toNat = k := by omega
        go_wp2
        generalize hW1 : wr.alloc (Obj.cells #[Value.slice A0 xr.length d0, Value.int IntKind.i64 xw] 47) = W1 at *
        have hW : Ext w W1 := hW1 ▸ (by repeat (first | (with_reducible exact Ext.refl _) | (with_reducible assumption) | (with_reducible apply Ext.alloc) | (with_reducible apply Ext.drewN) | (with_reducible apply Ext.drew) | (with_reducible apply Ext.grow) | (with_reducible refine Ext.trans ?_ (by with_reducible assumption))))
        clear hW1
        (refine wp_region_quiet_grown (by assumption) (by kernel_rfl) ?_; (repeat (go_big_quiet_step ( first | (go_at_call 51; exact grown_ext ((f1 _).mono fun _ _ ⟨he, hw⟩ => ⟨he, hw ▸ Ext.refl _⟩)) | (go_at_call 41; exact grown_ext (f2 _ (Ext.grow hW _ _))) | (go_at_call 52; exact grown_ext (f3 _ (Ext.grow hW _ _))) ))); refine wpQuiet_nil ?_; intro _ hw'; obtain ⟨⟨nq, osq⟩, hw''⟩ := hw'; subst hw'')
        go_wp2
        · go_ret
          have : 0 ≤ q := by assumption
          exact ⟨ret_bool (by rw [HS2.out]; simp; omega), (by repeat (first | (with_reducible exact Ext.refl _) | (with_reducible assumption) | (with_reducible apply Ext.alloc) | (with_reducible apply Ext.drewN) | (with_reducible apply Ext.drew) | (with_reducible apply Ext.grow) | (with_reducible refine Ext.trans ?_ (by with_reducible assumption))))⟩
        · go_roundg (z.length - (k + 1 + 1))
          case measure => omega
          case rel =>
            have : q < 0 := by assumption
            exact ⟨k + 1 + 1, by omega, by omega, by go_num, ⟨(by repeat (first | (with_reducible exact Ext.refl _) | (with_reducible assumption) | (with_reducible apply Ext.alloc) | (with_reducible apply Ext.drewN) | (with_reducible apply Ext.drew) | (with_reducible apply Ext.grow) | (with_reducible refine Ext.trans ?_ (by with_reducible assumption))))⟩, ⟨by rw [HS2.out]; simp [this]⟩⟩
    · have hltz : ¬ (k : Int) < (z.length : Int) := by omega
      have hE0 := HE.out
      go_wp2
      go_ret
      exact ⟨ret_bool (by rw [← HA.out, List.drop_eq_nil_of_le (by omega)]; simp [zsound0]), (by repeat (first | (with_reducible exact Ext.refl _) | (with_reducible assumption) | (with_reducible apply Ext.alloc) | (with_reducible apply Ext.drewN) | (with_reducible apply Ext.drew) | (with_reducible apply Ext.grow) | (with_reducible refine Ext.trans ?_ (by with_reducible assumption))))⟩
end Go.Proofs.YtmpndmjfdijamaaGreatDoor
