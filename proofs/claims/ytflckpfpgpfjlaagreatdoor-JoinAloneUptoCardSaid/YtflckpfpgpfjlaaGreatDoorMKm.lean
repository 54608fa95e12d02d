/- The walk of the law's pairs. The walk of the law's made. -/
import Derived.Test.YtflckpfpgpfjlaaGreatDoorMKb
import Derived.Test.YtflckpfpgpfjlaaGreatDoorMOpn
import Derived.Test.YtflckpfpgpfjlaaGreatDoorMJsr
import Derived.Test.YtflckpfpgpfjlaaGreatDoorMJsp
set_option linter.unusedVariables false
set_option linter.unusedSimpArgs false
section
namespace Go.Proofs.YtflckpfpgpfjlaaGreatDoor
open Go.RowKit Go.Sort
def PairsPost (lc rc : List Int) (a b : List GE) (w : World) (e : Ending) (w' : World) : Prop := Below w.heap.size w w' ∧ ((¬ Small lc rc a b ∧ e = .returned (.tuple #[.slice none 0 0, .bool false])) ∨ (Small lc rc a b ∧ ∃ (A : Option Addr) (c : Nat) (y : List GE), e = .returned (.tuple #[.slice A y.length c, .bool true]) ∧ Made (pairsL lc rc a b) y ∧ RdZ2 w' w.heap.size (.slice A y.length c) y))
/-- The pairs of one row of the left. -/
def rowP (lc rc : List Int) (x : GE) (l : List GE) : List GE := (l.filter fun y => meetK lc rc x.row y.row).map fun y => ⟨x.row ++ y.row, x.w * y.w⟩
section
variable {lc rc : List Int} {a b : List GE}
theorem pairs_snoc {i : Nat} {x : GE} (hx : a[i]? = some x) : pairsL lc rc (a.take (i + 1)) b = pairsL lc rc (a.take i) b ++ rowP lc rc x b := by
  unfold pairsL
  rw [flat_take a _ hx]
  rfl
theorem rowP_yes {x y : GE} {k : Nat} (hy : b[k]? = some y) (h : meetK lc rc x.row y.row = true) : rowP lc rc x (b.take (k + 1)) = rowP lc rc x (b.take k) ++ [⟨x.row ++ y.row, x.w * y.w⟩] := by
  unfold rowP
  rw [List.take_add_one, hy, List.filter_append, List.map_append]
  simp [h]
theorem rowP_no {x y : GE} {k : Nat} (hy : b[k]? = some y) (h : meetK lc rc x.row y.row = false) : rowP lc rc x (b.take (k + 1)) = rowP lc rc x (b.take k) := by
  unfold rowP
  rw [List.take_add_one, hy, List.filter_append, List.map_append]
  simp [h]
theorem rowP_len (x : GE) (l : List GE) : (rowP lc rc x l).length ≤ l.length := by
  unfold rowP
  rw [List.length_map]
  exact List.length_filter_le _ _
theorem pre_len {i : Nat} (hi : i < a.length) (x : GE) (k : Nat) (h : a.length * b.length ≤ 4000) : (pairsL lc rc (a.take i) b ++ rowP lc rc x (b.take k)).length ≤ 4000 := by
  have h1 := flat_len (a.take i) (fun x => rowP lc rc x b) b.length (fun x _ => rowP_len (lc := lc) (rc := rc) x b)
  have h2 := rowP_len (lc := lc) (rc := rc) x (b.take k)
  have h3 : (a.take i).length ≤ i := List.length_take_le _ _
  have h4 : (b.take k).length ≤ b.length := List.length_take_le' _ _
  have h5 : (a.take i).length * b.length ≤ i * b.length := Nat.mul_le_mul_right _ h3
  have h6 : (i + 1) * b.length ≤ a.length * b.length := Nat.mul_le_mul_right _ (by omega)
  rw [Nat.add_mul, Nat.one_mul] at h6
  rw [List.length_append]
  show ((a.take i).flatMap (fun x => rowP lc rc x b)).length + _ ≤ 4000
  omega
theorem small_step {i : Nat} {x : GE} (hx : a[i]? = some x) (h : Small lc rc (a.take i) b) (h2 : ∀ y ∈ b, meetK lc rc x.row y.row = true → x.w * y.w ≤ 1099511627776) : Small lc rc (a.take (i + 1)) b := fun u hu y hy hm => by
  rw [List.take_add_one, hx] at hu
  rcases List.mem_append.1 hu with hu | hu
  · exact h u hu y hy hm
  · simp at hu
    subst hu
    exact h2 y hy hm
end
theorem quo_le {x y : Int} (hy : 1 ≤ y) : (x ≤ 1099511627776 / y) ↔ x * y ≤ 1099511627776 := by
  have := Int.le_ediv_iff_mul_le (c := y) (a := x) (b := 1099511627776) (by omega)
  omega
set_option maxRecDepth 100000 in
set_option maxHeartbeats 4000000 in
theorem lPairs_any (op m1 m2 nk : Int) (name : ByteArray) (anti : Bool) (A1 A2 A3 A4 A5 A6 A7 : Option Addr) (c1 c2 l3 c3 l4 c4 l5 c5 l6 c6 l7 c7 : Nat) (lc rc : List Int) (u v : Value) (a b : List GE) (nl nr : Nat) (w : World) (ha : RdZ w AnyB u a) (hb : RdZ w AnyB v b) (h1 : RdI w AnyB (.slice A1 lc.length c1) lc) (h2 : RdI w AnyB (.slice A2 rc.length c2) rc) (WA : WBag nl a) (WB : WBag nr b) (hcol : Cols2 lc rc nl nr) (hl : a.length * b.length ≤ 4000) :
    Calls Tryz.prog 12 #[u, v, .agg #[.int .i64 op, .int .i64 m1, .int .i64 m2, .int .i64 nk, .string name, .bool anti, .slice A1 lc.length c1, .slice A2 rc.length c2, .slice A3 l3 c3, .slice A4 l4 c4, .slice A5 l5 c5, .slice A6 l6 c6, .slice A7 l7 c7]] w (PairsPost lc rc a b w) := by
  have mixed := mixed
  obtain ⟨A, c, rfl, _⟩ := ha.shape
  obtain ⟨B, d, rfl, _⟩ := hb.shape
  have hal := ha.len
  have hbl := hb.len
  obtain ⟨W0, hW0⟩ : ∃ W0, W0 = w.alloc (.cells #[.int .i64 op, .int .i64 m1, .int .i64 m2, .int .i64 nk, .string name, .bool anti, .slice A1 lc.length c1, .slice A2 rc.length c2, .slice A3 l3 c3, .slice A4 l4 c4, .slice A5 l5 c5, .slice A6 l6 c6, .slice A7 l7 c7] 28) := ⟨_, rfl⟩
  have HND := As.mk (node_all w op m1 m2 nk name anti A1 A2 A3 A4 A5 A6 A7 lc.length c1 rc.length c2 l3 c3 l4 c4 l5 c5 l6 c6 l7 c7 28 W0 hW0)
  have HE0 : As (Ext w W0) := ⟨hW0 ▸ Ext.alloc (Ext.refl w) _⟩
  have HA := As.mk (ha.ext HE0.out.below)
  have HB := As.mk (hb.ext HE0.out.below)
  have H1 := As.mk (h1.ext HE0.out.below)
  have H2 := As.mk (h2.ext HE0.out.below)
  have HWA := As.mk WA
  have HWB := As.mk WB
  have HCO := As.mk hcol
  have HL := As.mk hl
  clear ha hb h1 h2 WA WB hcol hl
  go_enter Tryz.func12, Tryz.ntmps12
  go_wp2_with fail
  rw [← hW0]
  have hs0 : w.heap.size + 1 = W0.heap.size := by rw [hW0]; simp
  rw [hs0]
  have HO0 := As.mk (OwnL.made 2 (EE (W0.alloc (.cells #[] 66)) (Fresh W0.heap.size [96])) 66 W0 W0.heap.size #[] 0 (Nat.le_refl _) (by decide) rfl)
  have HB0 : As (Below W0.heap.size W0 (W0.alloc (.cells #[] 66))) := ⟨(Ext.alloc (Ext.refl _) _).below⟩
  have hsz : w.heap.size < W0.heap.size := by rw [hW0]; simp
  have HW0 := As.mk hW0
  clear hW0
  go_loopg [8, 9, 10, 11] a.length (fun g s8 s9 _ _ wr => ∃ i : Nat, i ≤ a.length ∧ a.length - i ≤ g ∧ s9 = .int .i64 i ∧ As (OwnL 2 (EE wr (Fresh W0.heap.size [96])) 66 wr W0.heap.size s8 (pairsL lc rc (a.take i) b)) ∧ As (Below W0.heap.size W0 wr) ∧ As (Small lc rc (a.take i) b))
  case atStart => exact ⟨0, Nat.zero_le _, by omega, rfl, HO0, HB0, ⟨fun x hx => by cases hx⟩⟩
  case round =>
    obtain ⟨i, hi, hg, rfl, HO, HBW, HS⟩ := hrel
    by_cases hlt : i < a.length
    · have hltz : (i : Int) < (a.length : Int) := by omega
      obtain ⟨x, hx⟩ : ∃ x, a[i]? = some x := ⟨_, List.getElem?_eq_getElem hlt⟩
      have HXM := As.mk (List.mem_of_getElem? hx)
      have HX := As.mk hx
      have HPL := As.mk (fun k => pre_len (lc := lc) (rc := rc) hlt x k HL.out)
      have HSN := As.mk (pairs_snoc (lc := lc) (rc := rc) (b := b) hx)
      have HSS := As.mk (fun h2 => small_step hx HS.out h2)
      obtain ⟨b1, o1, c1', Ax, dx, hv, hb1, hxw, hrow, x0, x1⟩ := RdZ.ent (HA.out.ext HBW.out) hx
      injection hv with hA _ hcc
      subst hA hcc
      have HXB := As.mk (fun W (hB : Below W0.heap.size W0 W) => RdZ.ent (HA.out.ext hB) hx)
      clear hx hrow
      generalize pairsL lc rc (a.take i) b = pre at *
      go_wp2_with fail
      generalize wr = wo at *
      go_loopg [8, 10, 11] b.length (fun g s8 s10 _ wr => ∃ k : Nat, k ≤ b.length ∧ b.length - k ≤ g ∧ s10 = .int .i64 k ∧ As (OwnL 2 (EE wr (Fresh W0.heap.size [96])) 66 wr W0.heap.size s8 (pre ++ rowP lc rc x (b.take k))) ∧ As (Below W0.heap.size W0 wr) ∧ As (∀ y ∈ b.take k, meetK lc rc x.row y.row = true → x.w * y.w ≤ 1099511627776))
      case atStart => exact ⟨0, Nat.zero_le _, by omega, rfl, ⟨by rw [show rowP lc rc x (b.take 0) = [] from rfl, List.append_nil]; exact HO.out⟩, HBW, ⟨fun y hy => by cases hy⟩⟩
      case round =>
        clear HO HBW
        obtain ⟨k, hk, hgk, rfl, HO, HBW, HT⟩ := hrel
        by_cases hkl : k < b.length
        · have hklz : (k : Int) < (b.length : Int) := by omega
          obtain ⟨y, hy⟩ : ∃ y, b[k]? = some y := ⟨_, List.getElem?_eq_getElem hkl⟩
          have HYM := As.mk (List.mem_of_getElem? hy)
          obtain ⟨b1', o1', c1'', Ax', dx', hv', _, hxw', hrow, x0, x1⟩ := HXB.out wr HBW.out
          injection hv' with hA hn hcc
          injection hA with hA
          injection hA with hA1 hA2 _
          subst hA1 hA2 hcc
          obtain ⟨b2, o2, c2', Ay, dy, hv2, hb2, hyw, hyrow, y0, y1⟩ := RdZ.ent (HB.out.ext HBW.out) hy
          injection hv2 with hA _ hcc
          subst hA hcc
          obtain ⟨n0, n1, n2, n3, n4, n5, n6, n7, n8, n9, n10, n11, n12⟩ := HND.out
          have hbc := fun {a : Addr} {v : Value} (h : W0.cell? a = some v) => gc (bc HBW.out h)
          have m0 := hbc n0
          have m1' := hbc n1
          have m2' := hbc n2
          have m3 := hbc n3
          have m4 := hbc n4
          have m5 := hbc n5
          have m6 := hbc n6
          have m7 := hbc n7
          have m8 := hbc n8
          have m9 := hbc n9
          have m10 := hbc n10
          have m11 := hbc n11
          have m12 := hbc n12
          have gx0 := gc x0
          have gx1 := gc x1
          have gy0 := gc y0
          have gy1 := gc y1
          clear hbc n0 n1 n2 n3 n4 n5 n6 n7 n8 n9 n10 n11 n12
          have hxo := HWA.out.ok.row x HXM.out
          have hyo := HWB.out.ok.row y HYM.out
          obtain ⟨kx, hkx⟩ := pick_in hxo (HWA.out.len x HXM.out) HCO.out.left
          obtain ⟨ky, hky⟩ := pick_in hyo (HWB.out.len y HYM.out) HCO.out.right
          have HMM := fun (n : Nat) (os : Array Obj) => lMeets_any op m1 m2 nk name anti A1 A2 A3 A4 A5 A6 A7 c1 c2 l3 c3 l4 c4 l5 c5 l6 c6 l7 c7 lc rc (.slice Ax' x.row.length dx') (.slice Ay y.row.length dy) x.row y.row kx ky (Go.Sort.grow (wr.drewN n) os) (hrow.ext (Ext.grow (Ext.refl wr) n os).below) (hyrow.ext (Ext.grow (Ext.refl wr) n os).below) ((H1.out.ext HBW.out).ext (Ext.grow (Ext.refl wr) n os).below) ((H2.out.ext HBW.out).ext (Ext.grow (Ext.refl wr) n os).below) HCO.out.same (pick_pickL hkx) (pick_pickL hky)
          rw [← meetK_pick hkx hky] at HMM
          have HRX := As.mk hrow
          have HRY := As.mk hyrow
          have HYES := As.mk (fun h => rowP_yes (lc := lc) (rc := rc) (x := x) hy h)
          have HNO := As.mk (fun h => rowP_no (lc := lc) (rc := rc) (x := x) hy h)
          have HTT := As.mk (fun h => take_all HT.out hy h)
          have HLK := As.mk (HPL.out k)
          have hyp := (HWB.out.w y HYM.out).1
          have hxp := (HWA.out.w x HXM.out).1
          have HLX := As.mk (HWA.out.len x HXM.out)
          have HLY := As.mk (HWB.out.len y HYM.out)
          have HXYM := As.mk (fun (h : Small lc rc a b) => h x HXM.out y HYM.out)
          clear hy hrow hyrow hxo hyo hkx hky x0 x1 y0 y1
          go_wp2_with fail
          cases hmt : meetK lc rc x.row y.row with
          | false =>
            rw [hmt] at HMM
            have HN2 := As.mk (HNO.out hmt)
            have HT2 := As.mk (HTT.out (fun h => by rw [hmt] at h; cases h))
            clear hmt
            (refine wp_region_quiet_grown (by assumption) (by kernel_rfl) ?_; (repeat (go_big_quiet_step ( (go_at_call 27; exact grown_ext (HMM _ _)) ))); refine wpQuiet_nil ?_; intro _ hw'; obtain ⟨⟨nq, osq⟩, hw''⟩ := hw'; subst hw'')
            have HEQ : As (Ext wr (Go.Sort.grow (wr.drewN nq) osq)) := ⟨Ext.grow (Ext.refl wr) nq osq⟩
            generalize Go.Sort.grow (wr.drewN nq) osq = w2 at *
            go_wp2
            go_roundg (b.length - (k + 1))
            case measure => omega
            case rel => exact ⟨k + 1, by omega, by omega, by go_num, ⟨by rw [HN2.out]; exact (HO.out.ext HEQ.out).imp fun _ _ h => EE.mv h (Stays.below HEQ.out.below _)⟩, ⟨HBW.out.trans (HEQ.out.below.mono HBW.out.size)⟩, HT2⟩
          | true =>
            rw [hmt] at HMM
            have HY2 := As.mk (HYES.out hmt)
            have HTT2 := As.mk (fun h => HTT.out (fun _ => h))
            have HXY2 := As.mk (fun h => HXYM.out h hmt)
            clear hmt
            (refine wp_region_quiet_grown (by assumption) (by kernel_rfl) ?_; (repeat (go_big_quiet_step ( (go_at_call 27; exact grown_ext (HMM _ _)) ))); refine wpQuiet_nil ?_; intro _ hw'; obtain ⟨⟨nq, osq⟩, hw''⟩ := hw'; subst hw'')
            have HEQ : As (Ext wr (Go.Sort.grow (wr.drewN nq) osq)) := ⟨Ext.grow (Ext.refl wr) nq osq⟩
            have k0 := gx0 nq osq
            have k1 := gx1 nq osq
            have l0 := gy0 nq osq
            have l1 := gy1 nq osq
            generalize Go.Sort.grow (wr.drewN nq) osq = w2 at *
            clear m0 m1' m2' m3 m4 m5 m6 m7 m8 m9 m10 m11 m12 gx0 gx1 gy0 gy1 HMM
            have HBX := As.mk (HBW.out.trans (HEQ.out.below.mono HBW.out.size))
            obtain ⟨xr, xw⟩ := x
            obtain ⟨yr, yw⟩ := y
            simp only at *
            have hyz : (yw == 0) = false := by simp; omega
            have HQV := As.mk (quo_le (x := xw) hyp)
            by_cases hle : xw * yw ≤ 1099511627776
            · have hdiv := HQV.out.2 hle
              go_wp2_with fail
              go_quiet (fail)
              have HE3 : As (Ext w2 (w2.drewN nq)) := ⟨Ext.drewN (Ext.refl _) nq⟩
              have k0 := HE3.out.cell k0
              have k1 := HE3.out.cell k1
              have l0 := HE3.out.cell l0
              have l1 := HE3.out.cell l1
              generalize w2.drewN nq = w3 at *
              have HB3 := As.mk (HBX.out.trans (HE3.out.below.mono HBX.out.size))
              have HE4 : As (Ext w3 (w3.alloc (.cells #[] 96))) := ⟨Ext.alloc (Ext.refl _) _⟩
              have HR0 := As.mk (OwnL.made 4 EV 96 w3 w3.heap.size #[] 0 (Nat.le_refl _) (by decide) rfl)
              have HXR := As.mk (((HRX.out.ext HEQ.out.below).ext HE3.out.below).ext HE4.out.below)
              have HYR := As.mk ((HRY.out.ext HEQ.out.below).ext HE3.out.below)
              have HO3 := As.mk ((HO.out.ext (HEQ.out.trans HE3.out)).imp fun _ _ h => EE.mv h (Stays.below (HEQ.out.trans HE3.out).below _))
              have a0 := HE4.out.cell k0
              have hwm : IntKind.i64.wrap (xw * yw) = xw * yw := by have := Int.mul_nonneg (a := xw) (b := yw) (by omega) (by omega); rw [IntKind.wrap_i64]; omega
              have HWI : As (i64 (xw * yw)) := ⟨by have := Int.mul_nonneg (a := xw) (b := yw) (by omega) (by omega); unfold i64; omega⟩
              have HT3 := As.mk (HTT2.out hle)
              have HWM := As.mk (show Go.RowKit.wrap64 (xw * yw) = xw * yw from by rw [IntKind.wrap_i64] at hwm; unfold Go.RowKit.wrap64; omega)
              have hlxy : xr.length + yr.length ≤ 1024 := by have h1 := HLX.out; have h2 := HLY.out; have h3 := HCO.out.wide; omega
              have HE4B : As (Below w3.heap.size w3 (w3.alloc (.cells #[] 96))) := ⟨HE4.out.below⟩
              go_wp2_with (at_builtin; first | (refine OwnL.appends (w0 := w3) (W := w3.alloc (.cells #[] 96)) w3.heap.size rfl (.tmp 53) (.tmp 58) 64 96 _ 4 40 rfl Tryz.underlying64 info_val rfl (by decide) (by decide) _ [] xr _ _ _ rfl rfl HXR.out HR0.out HE4B.out HE4B.out.size (by simp; omega) ?_; intro v1 w4 hown hb4 hg4 hat4; rw [List.nil_append] at hown; have p0 := bc hb4 l0; have p1 := bc hb4 k1; have p2 := bc hb4 l1; have HO4 := As.mk hown; have HB4 := As.mk hb4; clear hown hb4 hg4 hat4) | (refine OwnL.appends (w0 := w3) (W := w4) w3.heap.size rfl (.tmp 60) (.tmp 65) 64 96 _ 4 40 rfl Tryz.underlying64 info_val rfl (by decide) (by decide) _ xr yr _ _ _ rfl rfl (HYR.out.ext HB4.out) HO4.out HB4.out HB4.out.size (by omega) ?_; intro v1' w5 hown hb5 hg5 hat5; have q1 := bc hb5 k1; have q2 := bc hb5 l1; have HO5 := As.mk hown; have HB5 := As.mk hb5; clear hown hb5 hg5 hat5))
              obtain ⟨A9, c9, rfl, _⟩ := HO5.out.shape
              have hE6 : Ext w5 w5.drew := Ext.drew (Ext.refl _)
              have HRW := As.mk (RdV.ext (HO5.out.rd (ok := Fresh W0.heap.size [96]) (fun k hk => ⟨Nat.le_trans HB3.out.size hk, by simp⟩)) hE6.below)
              have HO6 := As.mk ((HO3.out.below HB5.out).imp fun _ _ h => EE.mv h (Stays.below HB5.out _))
              have HO7 := As.mk ((HO6.out.ext hE6).imp fun _ _ h => EE.mv h (Stays.below hE6.below _))
              have HB7 := As.mk ((HB3.out.trans (HB5.out.mono HB3.out.size)).trans (hE6.below.mono (Nat.le_trans HB3.out.size HB5.out.size)))
              have hb7 := HB7.out.size
              have hlk := HLK.out
              generalize xr ++ yr = row at *
              clear p0 p1 p2 k0 k1 l0 l1 a0 hE6 HO6
              go_wp2_with fail
              have hwm2 := HWM.out
              have HLK7 : As ((pre ++ rowP lc rc ⟨xr, xw⟩ (b.take k)).length < 4294967296) := ⟨by omega⟩
              clear hlk hle hdiv
              go_region_law (refine OwnL.append_step (E := EE w5.drew (Fresh W0.heap.size [96])) (W := w5.drew) W0.heap.size rfl (.tmp 67) (.tmp 81) 34 66 _ 2 32 rfl Tryz.underlying34 info_entry rfl (by decide) (by decide) u8 (pre ++ rowP lc rc ⟨xr, xw⟩ (b.take k)) ⟨row, xw * yw⟩ [.slice A9 row.length c9, .int .i64 (xw * yw)] rfl rfl ⟨_, rfl, HWI.out, HRW.out⟩ rfl (by simp [Value.oneCell']) HO7.out HB7.out hb7 HLK7.out rfl ?_; intro v8 w8 hown hb8 hg8; have HO8 := As.mk (hown.imp fun _ _ h => EE.mv h (HO7.out.rowStays hg8 (ok := Fresh W0.heap.size [96]) (fun k h => by have := h.2; simp at this))); have HB8 := As.mk hb8; clear hown hb8 hg8)
              all_goals (go_wp2; go_roundg (b.length - (k + 1)); (case measure => omega); (case rel => exact ⟨k + 1, by omega, by omega, by go_num, ⟨by rw [HY2.out, ← List.append_assoc]; exact HO8.out⟩, HB8, HT3⟩))
            · have hdiv : 1099511627776 / yw < xw := by have := HQV.out; omega
              go_wp2_with fail
              go_quiet (fail)
              go_wp2
              go_ret2
              exact ⟨HE0.out.below.trans ((HBX.out.trans ((Ext.drewN (Ext.refl w2) _).below.mono HBX.out.size)).mono (Nat.le_of_lt hsz)), .inl ⟨fun h => (by have := HXY2.out h; omega), rfl⟩⟩
        · have hklz : ¬ (k : Int) < (b.length : Int) := by omega
          obtain rfl : k = b.length := by omega
          rw [List.take_length] at HO HT
          go_wp2
          go_roundg (a.length - (i + 1))
          case measure => omega
          case rel => exact ⟨i + 1, by omega, by omega, by go_num, ⟨by rw [HSN.out]; exact HO.out⟩, HBW, ⟨HSS.out HT.out⟩⟩
    · have hltz : ¬ (i : Int) < (a.length : Int) := by omega
      obtain rfl : i = a.length := by omega
      rw [List.take_length] at HO HS
      have hrd : RdZ wr AnyB _ (pairsL lc rc a b) := RdL.move (HO.out.rd (ok := AnyB) fun _ _ => trivial) (fun _ _ e => EE.mv e (Stays.any _ _)) (Stays.any _ _)
      obtain ⟨A9, c9, rfl, _⟩ := hrd.shape
      have HMK := As.mk (make_any _ (pairsL lc rc a b) wr hrd)
      obtain ⟨r1, r2, r3⟩ := pairs_res HCO.out.wide HWA.out.ok HWB.out.ok HWA.out.len HWB.out.len (fun x hx => (HWA.out.w x hx).1) (fun x hx => (HWB.out.w x hx).1) HS.out
      have HR12 : As (((pairsL lc rc a b).any badE || overL (pairsL lc rc a b)) = false) := ⟨by rw [r1, r2]; rfl⟩
      clear hrd r1 r2 r3
      generalize hpl : pairsL lc rc a b = pl at *
      have HPLE := As.mk hpl
      clear hpl
      go_wp2_with (go_at_call 28; refine HMK.out.mono ?_; rintro e w7 hm; obtain ⟨A7', n7, c7', k7, rfl, hB7, hc7⟩ := hm.cases; have hc := hc7.resolve_left (fun e => by have h := e.2; rw [HR12.out] at h; cases h); obtain ⟨rfl, _, dd, hmd, hrr⟩ := hc; obtain ⟨A8, c8, hv8, _⟩ := hrr.shape; injection hv8 with hA8 hn8 hc8; subst hA8 hn8 hc8; have HB7 := As.mk hB7; have HMD := As.mk hmd; have HRR := As.mk hrr; clear hm hB7 hc7 hmd hrr)
      go_ret2
      exact ⟨HE0.out.below.trans (HBW.out.mono (Nat.le_of_lt hsz) |>.trans (HB7.out.mono (Nat.le_trans (Nat.le_of_lt hsz) HBW.out.size))), .inr ⟨HS.out, _, _, dd, rfl, by rw [HPLE.out]; exact HMD.out, HRR.out.low (Nat.le_trans (Nat.le_of_lt hsz) HBW.out.size)⟩⟩
end Go.Proofs.YtflckpfpgpfjlaaGreatDoor
end
section
namespace Go.Proofs.YtflckpfpgpfjlaaGreatDoor
open Go.RowKit Go.Sort
def MadePost (op : Int) (widths cols others : List Int) (w : World) (e : Ending) (w' : World) : Prop := Below w.heap.size w w' ∧ (e = .returned (.pointer none) ∨ ∃ b bl br x y, op = 5 ∧ widths = [x, y] ∧ joinOk cols others x y = true ∧ w.heap.size ≤ b ∧ w.heap.size ≤ bl ∧ w.heap.size ≤ br ∧ e = .returned (.pointer (some ⟨b, 0, none⟩)) ∧ JNew b bl br w' cols others x y)
/-- One node as a plan. -/
theorem plan_one {w : World} {d : Nat} {cs : List Value} (h : NodeC w (PlanAt w d) cs) : PlanAt (w.alloc (.cells cs.toArray 28)) (d + 1) (.slice (some ⟨w.heap.size, 0, none⟩) 1 1) := by
  have hE : Ext w (w.alloc (.cells cs.toArray 28)) := Ext.alloc (Ext.refl w) _
  have h2 := h.ext hE.below fun _ => PlanAt.ext hE.below
  refine ⟨[cs], _, 1, rfl, Nat.le_refl _, by simp, fun _ => ⟨w.heap.size, 0, cs.toArray, 28, (0, 0), rfl, Okf.any _ _ _, heap_alloc_new w _, fun j x hj => ?_⟩⟩
  obtain rfl : j = 0 := by have := (List.getElem?_eq_some_iff.1 hj).1; simpa using this
  simp only [List.getElem?_cons_zero, Option.some.injEq] at hj
  subst hj
  have h3 := h
  obtain ⟨op, a, b, n, name, anti, A1, A2, A3, A4, A5, A6, A7, c1, c2, c3, c4, l5, c5, l6, c6, c7, cols, others, kids, es, ps, rfl, _⟩ := h3
  exact ⟨_, rfl, ⟨rfl, h2⟩, by simp [Value.oneCell'], fun i u hu => by simpa using hu⟩
set_option maxRecDepth 100000 in
set_option maxHeartbeats 4000000 in
theorem lMade_any (op m1 m2 nk : Int) (name : ByteArray) (anti : Bool) (A1 A2 A3 A4 A5 A6 A7 : Option Addr) (c1 c2 l3 c3 l4 c4 l5 c5 l6 c6 l7 c7 : Nat) (cols others widths : List Int) (u : Value) (w : World) (h1 : RdI w AnyB (.slice A1 cols.length c1) cols) (h2 : RdI w AnyB (.slice A2 others.length c2) others) (hu : RdI w AnyB u widths) (hP : NodeC w (PlanAt w 80) [.int .i64 op, .int .i64 m1, .int .i64 m2, .int .i64 nk, .string name, .bool anti, .slice A1 cols.length c1, .slice A2 others.length c2, .slice A3 l3 c3, .slice A4 l4 c4, .slice A5 l5 c5, .slice A6 l6 c6, .slice A7 l7 c7]) :
    Calls Tryz.prog 9 #[.agg #[.int .i64 op, .int .i64 m1, .int .i64 m2, .int .i64 nk, .string name, .bool anti, .slice A1 cols.length c1, .slice A2 others.length c2, .slice A3 l3 c3, .slice A4 l4 c4, .slice A5 l5 c5, .slice A6 l6 c6, .slice A7 l7 c7], u] w (MadePost op widths cols others w) := by
  have mixed := mixed
  obtain ⟨A, c, rfl, _⟩ := hu.shape
  obtain ⟨W0, hW0⟩ : ∃ W0, W0 = w.alloc (.cells #[.int .i64 op, .int .i64 m1, .int .i64 m2, .int .i64 nk, .string name, .bool anti, .slice A1 cols.length c1, .slice A2 others.length c2, .slice A3 l3 c3, .slice A4 l4 c4, .slice A5 l5 c5, .slice A6 l6 c6, .slice A7 l7 c7] 28) := ⟨_, rfl⟩
  have HND := As.mk (node_all w op m1 m2 nk name anti A1 A2 A3 A4 A5 A6 A7 cols.length c1 others.length c2 l3 c3 l4 c4 l5 c5 l6 c6 l7 c7 28 W0 hW0)
  have HE0 : As (Ext w W0) := ⟨hW0 ▸ Ext.alloc (Ext.refl w) _⟩
  have HE1 : As (Ext W0 (W0.alloc (.cells #[.int .i64 op, .int .i64 m1, .int .i64 m2, .int .i64 nk, .string name, .bool anti, .slice A1 cols.length c1, .slice A2 others.length c2, .slice A3 l3 c3, .slice A4 l4 c4, .slice A5 l5 c5, .slice A6 l6 c6, .slice A7 l7 c7] 28))) := ⟨Ext.alloc (Ext.refl W0) _⟩
  have HG := As.mk (r6Great_any _ 200 _ (plan_one (hP.ext HE0.out.below fun _ => PlanAt.ext HE0.out.below)))
  have HNW := As.mk (fun W (hE : Ext w W) => jNew_any op m1 m2 nk name anti A1 A2 A3 A4 A5 A6 A7 c1 c2 l3 c3 l4 c4 l5 c5 l6 c6 l7 c7 cols others widths (.slice A widths.length c) W (h1.ext hE.below) (h2.ext hE.below) (hu.ext hE.below))
  clear h1 h2 hu hP
  by_cases hw : widths.length = 2
  · have HNW : As (∀ W, Ext w W → Calls Tryz.prog 16 #[.agg #[.int .i64 op, .int .i64 m1, .int .i64 m2, .int .i64 nk, .string name, .bool anti, .slice A1 cols.length c1, .slice A2 others.length c2, .slice A3 l3 c3, .slice A4 l4 c4, .slice A5 l5 c5, .slice A6 l6 c6, .slice A7 l7 c7], .slice A 2 c] W (NewJPost op widths cols others W)) := ⟨by rw [← hw]; exact HNW.out⟩
    rw [hw]
    have hw2 : ((2 : Int) != 2) = false := rfl
    clear hw
    obtain ⟨n0, n1, n2, n3, n4, n5, n6, n7, n8, n9, n10, n11, n12⟩ := HND.out
    have he1 := HE1.out
    have m0 := he1.cell n0
    have m1' := he1.cell n1
    have m2' := he1.cell n2
    have m3 := he1.cell n3
    have m4 := he1.cell n4
    have m5 := he1.cell n5
    have m6 := he1.cell n6
    have m7 := he1.cell n7
    have m8 := he1.cell n8
    have m9 := he1.cell n9
    have m10 := he1.cell n10
    have m11 := he1.cell n11
    have m12 := he1.cell n12
    have hs0 : w.heap.size + 1 = W0.heap.size := by rw [hW0]; simp
    have HG2 : As (Calls Tryz.prog 20 #[.slice (some ⟨w.heap.size + 1, 0, none⟩) 1 1, .int .i64 200] ((w.alloc (.cells #[.int .i64 op, .int .i64 m1, .int .i64 m2, .int .i64 nk, .string name, .bool anti, .slice A1 cols.length c1, .slice A2 others.length c2, .slice A3 l3 c3, .slice A4 l4 c4, .slice A5 l5 c5, .slice A6 l6 c6, .slice A7 l7 c7] 28)).alloc (.cells #[.int .i64 op, .int .i64 m1, .int .i64 m2, .int .i64 nk, .string name, .bool anti, .slice A1 cols.length c1, .slice A2 others.length c2, .slice A3 l3 c3, .slice A4 l4 c4, .slice A5 l5 c5, .slice A6 l6 c6, .slice A7 l7 c7] 28)) (BoolPost (W0.alloc (.cells #[.int .i64 op, .int .i64 m1, .int .i64 m2, .int .i64 nk, .string name, .bool anti, .slice A1 cols.length c1, .slice A2 others.length c2, .slice A3 l3 c3, .slice A4 l4 c4, .slice A5 l5 c5, .slice A6 l6 c6, .slice A7 l7 c7] 28)))) := ⟨by rw [hs0, ← hW0]; exact HG.out⟩
    obtain ⟨W1, hW1⟩ : ∃ W1, W1 = W0.alloc (.cells #[.int .i64 op, .int .i64 m1, .int .i64 m2, .int .i64 nk, .string name, .bool anti, .slice A1 cols.length c1, .slice A2 others.length c2, .slice A3 l3 c3, .slice A4 l4 c4, .slice A5 l5 c5, .slice A6 l6 c6, .slice A7 l7 c7] 28) := ⟨_, rfl⟩
    rw [← hW1] at HG2 m0 m1' m2' m3 m4 m5 m6 m7 m8 m9 m10 m11 m12
    have HEW : As (Ext w W1) := ⟨hW1 ▸ HE0.out.trans HE1.out⟩
    clear HG HE1 he1 hs0 hW1
    go_enter Tryz.func9, Tryz.ntmps9
    go_wp2_with fail
    refine HG2.out.mono ?_
    rintro e w2 ⟨⟨q, rfl⟩, hE2⟩
    have HE2 := As.mk (HEW.out.trans hE2)
    have k0 := hE2.cell m0
    have k1 := hE2.cell m1'
    have k2 := hE2.cell m2'
    have k3 := hE2.cell m3
    have k4 := hE2.cell m4
    have k5 := hE2.cell m5
    have k6 := hE2.cell m6
    have k7 := hE2.cell m7
    have k8 := hE2.cell m8
    have k9 := hE2.cell m9
    have k10 := hE2.cell m10
    have k11 := hE2.cell m11
    have k12 := hE2.cell m12
    clear hE2 m0 m1' m2' m3 m4 m5 m6 m7 m8 m9 m10 m11 m12 n0 n1 n2 n3 n4 n5 n6 n7 n8 n9 n10 n11 n12 HG2 HEW
    cases q with
    | true =>
      go_wp2_with fail
      go_ret
      exact ⟨HE2.out.below, .inl rfl⟩
    | false =>
      go_wp2_with fail
      refine (HNW.out w2 HE2.out).mono ?_
      rintro e w3 ⟨hB, h⟩
      have HB := As.mk (HE2.out.below.trans (hB.mono HE2.out.size))
      have hsz := HE2.out.size
      clear hB
      rcases h with ⟨rfl, _⟩ | ⟨b, bl, br, x, y, h5, hw', hok, g1, g2, g3, rfl, hJ⟩
      · go_wp2_with fail
        go_ret
        exact ⟨HB.out, .inl rfl⟩
      · have HX := As.mk (show MadePost op widths cols others w (.returned (.pointer (some ⟨b, 0, none⟩))) w3 from ⟨HB.out, .inr ⟨b, bl, br, x, y, h5, hw', hok, Nat.le_trans hsz g1, Nat.le_trans hsz g2, Nat.le_trans hsz g3, rfl, hJ⟩⟩)
        clear h5 hw' hok g1 g2 g3 hJ
        go_wp2_with fail
        go_ret
        exact HX.out
  · have hw2 : ((widths.length : Int) != 2) = true := by simp; omega
    go_enter Tryz.func9, Tryz.ntmps9
    go_wp2_with fail
    go_ret
    exact ⟨hW0 ▸ HE0.out.below, .inl rfl⟩
end Go.Proofs.YtflckpfpgpfjlaaGreatDoor
end
