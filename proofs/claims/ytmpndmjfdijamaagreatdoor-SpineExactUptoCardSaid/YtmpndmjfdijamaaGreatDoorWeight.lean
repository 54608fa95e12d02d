/- The walks of a spine's readers: weight, Weight, Len, Batches, Held. -/
import Derived.Test.YtmpndmjfdijamaaGreatDoorSpine
set_option linter.unusedVariables false
set_option linter.unusedSimpArgs false
namespace Go.Proofs.YtmpndmjfdijamaaGreatDoor
open Go.RowKit Go.Sort
/-- What a batch says of a key and a row. -/
def lookW (z : List GI) (k e : ByteArray) : Int := match z.find? (fun x => kcmp x.key x.enc k e == 0) with
  | some x => x.size
  | none => 0
def weightL (bs : List (List GI)) (k e : ByteArray) : Int := wrap64 ((bs.map (lookW · k e)).foldl (· + ·) 0)
theorem lookW_hit {z : List GI} {k e : ByteArray} {i : Nat} {x : GI} (hf : Found (fun x => kcmp x.key x.enc k e) z i true) (hx : z[i]? = some x) : lookW z k e = x.size := by
  have hm := hf.met
  rw [hx] at hm
  simp only at hm
  have h0 : kcmp x.key x.enc k e = 0 := of_decide_eq_true hm.symm
  have : z.find? (fun x => kcmp x.key x.enc k e == 0) = some x := by
    rw [List.find?_eq_some_iff_getElem]
    obtain ⟨hi, rfl⟩ := List.getElem?_eq_some_iff.1 hx
    refine ⟨by simpa using h0, i, hi, rfl, fun j hj => ?_⟩
    have := hf.below j z[j] hj (List.getElem?_eq_getElem (by omega))
    simp only [Bool.not_eq_true', beq_eq_false_iff_ne]
    omega
  unfold lookW
  rw [this]
theorem lookW_miss {z : List GI} {k e : ByteArray} {i : Nat} (hz : Rise z) (hf : Found (fun x => kcmp x.key x.enc k e) z i false) : lookW z k e = 0 := by
  have : z.find? (fun x => kcmp x.key x.enc k e == 0) = none := by
    rw [List.find?_eq_none]
    intro y hy h0
    have h0 : kcmp y.key y.enc k e = 0 := by simpa using h0
    obtain ⟨j, hj⟩ := List.mem_iff_getElem?.1 hy
    rcases Nat.lt_or_ge j i with hji | hji
    · have := hf.below j y hji hj
      omega
    · rcases Nat.lt_or_eq_of_le hji with hlt | rfl
      · obtain ⟨x, hx⟩ : ∃ x, z[i]? = some x := ⟨_, List.getElem?_eq_getElem (by have := (List.getElem?_eq_some_iff.1 hj).1; omega)⟩
        have h1 := hz.get hlt hx hj
        have h2 := hf.above i x (Nat.le_refl _) hx
        obtain ⟨e1, e2⟩ := kcmp_eq h0
        unfold GI.cmp at h1
        rw [e1, e2] at h1
        omega
      · have hm := hf.met
        rw [hj] at hm
        simp only at hm
        exact absurd h0 (of_decide_eq_false hm.symm)
  unfold lookW
  rw [this]
theorem foldl_add (l : List Int) (a : Int) : l.foldl (· + ·) a = a + l.foldl (· + ·) 0 := by
  induction l generalizing a with
  | nil => simp
  | cons x l ih => rw [List.foldl_cons, ih, List.foldl_cons, ih (0 + x)]; omega
theorem weightL_nil (k e : ByteArray) : weightL [] k e = 0 := by unfold weightL wrap64; rfl
theorem weightL_step (bs : List (List GI)) (k e : ByteArray) (j : Nat) (z : List GI) (hz : bs[j]? = some z) : weightL (bs.take (j + 1)) k e = wrap64 (weightL (bs.take j) k e + lookW z k e) := by
  unfold weightL
  rw [List.take_add_one, hz, Option.toList_some, List.map_append, List.foldl_append, List.map_cons, List.map_nil, List.foldl_cons, List.foldl_nil]
  generalize List.foldl _ _ _ = q
  unfold wrap64
  omega
/-- A spine, read. -/
theorem SpAt.bat {base b : Nat} {w : World} {S : GS} (h : SpAt base b w S) : ∃ u bv, w.heap[b]? = some (.cells #[u, bv, .int .i64 S.live] 69 (0, 0)) ∧ RdI w AnyB u S.cols ∧ RdL 1 (EBt w AnyB) w AnyB bv S.bs :=
  let ⟨u, bv, h1, h2, h3⟩ := h
  ⟨u, bv, h1, h2.mv (Stays.any _ _), RdL.move (h3.rd (ok := AnyB) fun _ _ => trivial) (fun _ _ e => e.mv (Stays.any _ _)) (Stays.mono fun _ _ h => h)⟩
theorem spine_cells {w : World} {k : Nat} {a b c : Value} {T : TypeId} (h : w.heap[k]? = some (.cells #[a, b, c] T (0, 0))) :
    w.cell? ⟨k, 0, none⟩ = some a ∧ w.cell? ⟨k, 1, none⟩ = some b ∧ w.cell? ⟨k, 2, none⟩ = some c ∧ w.frozen? ⟨k, 0, none⟩ = false ∧ w.frozen? ⟨k, 1, none⟩ = false ∧ w.frozen? ⟨k, 2, none⟩ = false := by
  refine ⟨?_, ?_, ?_, Lib.frozen_of_heap h 0, Lib.frozen_of_heap h 1, Lib.frozen_of_heap h 2⟩ <;> rw [Lib.cell_of_heap h] <;> rfl
set_option maxRecDepth 100000 in
theorem weight_any (base b : Nat) (S : GS) (k e : ByteArray) (A0 : Option Addr) (n0 d0 : Nat) (s : Int) (w : World) (h : SpAt base b w S) (hR : ∀ z ∈ S.bs, Rise z) :
    Calls Tryz.prog 34 #[.pointer (some ⟨b, 0, none⟩), .agg #[.string k, .string e, .slice A0 n0 d0, .int .i64 s]] w fun r w' => r = .returned (.int .i64 (weightL S.bs k e)) ∧ Ext w w' := by
  obtain ⟨u, bv, hb, _, hbs⟩ := h.bat
  obtain ⟨A, c, rfl, hc⟩ := hbs.shape
  have hl := hbs.len
  obtain ⟨_, c1, _⟩ := spine_cells hb
  have hlt := World.block_lt_of_cell? w _ c1
  have HB := As.mk hbs
  have HR := As.mk hR
  obtain ⟨_, bs, _⟩ := S
  simp only at *
  clear h hb hbs hR
  have d1 : (w.alloc (.cells #[.string k, .string e, .slice A0 n0 d0, .int .i64 s] 72)).cell? ⟨b, 1, none⟩ = some (.slice A bs.length c) := Ext.cell (Ext.alloc (Ext.refl _) _) c1
  obtain ⟨x0, x1, x2, x3, _⟩ := cells4 (heap_alloc_new w (.cells #[.string k, .string e, .slice A0 n0 d0, .int .i64 s] 72))
  go_enter Tryz.func34, Tryz.ntmps34
  go_wp2_with fail
  have hE0 : Ext w (w.alloc (.cells #[.string k, .string e, .slice A0 n0 d0, .int .i64 s] 72)) := (by repeat (first | (with_reducible exact Ext.refl _) | (with_reducible assumption) | (with_reducible apply Ext.alloc) | (with_reducible apply Ext.drewN) | (with_reducible apply Ext.drew) | (with_reducible apply Ext.grow) | (with_reducible refine Ext.trans ?_ (by with_reducible assumption))))
  generalize w.heap.size = bx at *
  generalize w.alloc (.cells #[.string k, .string e, .slice A0 n0 d0, .int .i64 s] 72) = W0 at *
  go_loopg [5, 15] bs.length (fun g s5 s15 wr => ∃ (j : Nat), j ≤ bs.length ∧ bs.length - j ≤ g ∧ s15 = .int .i64 j ∧ s5 = .int .i64 (weightL (bs.take j) k e) ∧ As (Ext W0 wr))
  case atStart => exact ⟨0, by omega, by omega, by go_num, by rw [List.take_zero, weightL_nil], ⟨Ext.refl _⟩⟩
  case round =>
    obtain ⟨j, hj, hg, rfl, rfl, HE⟩ := hrel
    by_cases hlt : j < bs.length
    · have hltz : (j : Int) < (bs.length : Int) := by omega
      obtain ⟨z, hz⟩ : ∃ z, bs[j]? = some z := ⟨_, List.getElem?_eq_getElem hlt⟩
      obtain ⟨b0, o, c', hv, hb0, cs, _, ⟨vz, rfl, hvz⟩, _, hcc⟩ := HB.out.at hz
      have e0 := (hE0.trans HE.out).cell (hcc 0 vz rfl)
      simp only [Nat.mul_one, Nat.add_zero] at e0
      have hRz := HR.out z (List.mem_of_getElem? hz)
      have hvz2 := hvz.ext (hE0.trans HE.out).below
      injection hv with hA _ hccc
      subst hA
      have y0 := HE.out.cell x0
      have y1 := HE.out.cell x1
      have y2 := HE.out.cell x2
      have y3 := HE.out.cell x3
      have hst := weightL_step bs k e j z hz
      obtain ⟨Az, cz, rfl, _⟩ := hvz2.shape
      have hbsr := bsItem_any _ z A0 d0 n0 k e s wr hvz2 (hRz.mono k e)
      have HZ := As.mk hvz2
      have HRZ := As.mk hRz
      clear hvz hvz2 hz hRz hcc hccc
      have HST := As.mk hst
      clear hst
      have hwi : i64 (weightL (bs.take j) k e) := by unfold weightL wrap64 i64; omega
      generalize weightL (bs.take j) k e = n0' at *
      go_wp2_with fail
      refine hbsr.mono ?_
      rintro r w3 ⟨⟨i, fb, rfl, hf⟩, hE3⟩
      cases fb with
      | false =>
        have hlk := lookW_miss HRZ.out hf
        rw [hlk, Int.add_zero] at HST
        have HE2 := As.mk (HE.out.trans hE3)
        clear hf hE3 hlk
        go_wp2
        go_roundg (bs.length - (j + 1))
        case measure => omega
        case rel => exact ⟨j + 1, by omega, by omega, by go_num, by rw [HST.out]; unfold i64 at hwi; unfold wrap64; go_num, HE2⟩
      | true =>
        obtain ⟨x, hx⟩ : ∃ x, z[i]? = some x := by
          have hm := hf.met
          cases hzi : z[i]? with
          | none => rw [hzi] at hm; cases hm
          | some x => exact ⟨x, rfl⟩
        have hlk := lookW_hit hf hx
        rw [hlk] at HST
        have HE2 := As.mk (HE.out.trans hE3)
        obtain ⟨b1, o1, c1', A1, d1', hv, hb1, hxs, _, _, _, _, _, g3⟩ := RdT.itm (HZ.out.ext hE3.below) hx
        injection hv with hA _ hccc
        subst hA
        have hil : i < z.length := (List.getElem?_eq_some_iff.1 hx).1
        have hilz : (i : Int) < (z.length : Int) := by omega
        clear hf hE3 hlk hx hccc
        obtain ⟨xk, xe, xr, xs⟩ := x
        simp only at *
        go_wp2
        go_roundg (bs.length - (j + 1))
        case measure => omega
        case rel => exact ⟨j + 1, by omega, by omega, by go_num, by rw [HST.out], HE2⟩
    · have hltz : ¬ (j : Int) < (bs.length : Int) := by omega
      obtain rfl : j = bs.length := by omega
      go_wp2
      go_ret
      exact ⟨rfl, hE0.trans HE.out⟩
theorem spLen_any (base b : Nat) (S : GS) (w : World) (h : SpAt base b w S) : Calls Tryz.prog 14 #[.pointer (some ⟨b, 0, none⟩)] w fun r w' => r = .returned (.int .i64 S.live) ∧ w = w' := by
  obtain ⟨u, bv, hb, _, hbs⟩ := h.bat
  obtain ⟨_, _, c2, _⟩ := spine_cells hb
  clear h hb hbs
  go_enter Tryz.func14, Tryz.ntmps14
  go_wp2
  go_ret
  exact ⟨rfl, rfl⟩
theorem spBatches_any (base b : Nat) (S : GS) (w : World) (h : SpAt base b w S) : Calls Tryz.prog 24 #[.pointer (some ⟨b, 0, none⟩)] w fun r w' => r = .returned (.int .i64 S.bs.length) ∧ w = w' := by
  obtain ⟨u, bv, hb, _, hbs⟩ := h.bat
  obtain ⟨A, c, rfl, hc⟩ := hbs.shape
  obtain ⟨_, c1, _, _⟩ := spine_cells hb
  clear h hb hbs
  go_enter Tryz.func24, Tryz.ntmps24
  go_wp2
  go_ret
  exact ⟨rfl, rfl⟩
theorem spLen_nil (w : World) : Calls Tryz.prog 14 #[.pointer none] w fun r w' => r = .returned (.int .i64 0) ∧ w = w' := by
  go_enter Tryz.func14, Tryz.ntmps14
  go_wp2
  go_ret
  exact ⟨rfl, rfl⟩
theorem spBatches_nil (w : World) : Calls Tryz.prog 24 #[.pointer none] w fun r w' => r = .returned (.int .i64 0) ∧ w = w' := by
  go_enter Tryz.func24, Tryz.ntmps24
  go_wp2
  go_ret
  exact ⟨rfl, rfl⟩
theorem spHeld_nil (w : World) : Calls Tryz.prog 23 #[.pointer none] w fun r w' => r = .returned (.int .i64 0) ∧ w = w' := by
  go_enter Tryz.func23, Tryz.ntmps23
  go_wp2
  go_ret
  exact ⟨rfl, rfl⟩
def heldL : List (List GI) → Nat
  | [] => 0
  | z :: bs => z.length + heldL bs
theorem heldL_app (l m : List (List GI)) : heldL (l ++ m) = heldL l + heldL m := by
  induction l with
  | nil => simp [heldL]
  | cons z l ih => simp [heldL, ih, Nat.add_assoc]
theorem heldL_split (l : List (List GI)) (j : Nat) (z : List GI) (hz : l[j]? = some z) : heldL (l.take (j + 1)) = heldL (l.take j) + z.length ∧ heldL (l.take j) + z.length ≤ heldL l := by
  have h1 : heldL (l.take (j + 1)) = heldL (l.take j) + z.length := by
    rw [List.take_add_one, hz, Option.toList_some, heldL_app]; simp [heldL]
  have h2 := heldL_app (l.take (j + 1)) (l.drop (j + 1))
  rw [List.take_append_drop] at h2
  omega
theorem spHeld_any (base b : Nat) (S : GS) (w : World) (h : SpAt base b w S) (hH : heldL S.bs ≤ 4294967296) : Calls Tryz.prog 23 #[.pointer (some ⟨b, 0, none⟩)] w fun r w' => r = .returned (.int .i64 (heldL S.bs)) ∧ w = w' := by
  obtain ⟨u, bv, hb, _, hbs⟩ := h.bat
  obtain ⟨A, c, rfl, hc⟩ := hbs.shape
  have hl := hbs.len
  obtain ⟨_, c1, _⟩ := spine_cells hb
  have HB := As.mk hbs
  obtain ⟨_, bs, _⟩ := S
  simp only at *
  clear h hb hbs
  go_enter Tryz.func23, Tryz.ntmps23
  go_wp2_with fail
  go_loopg [3, 13] bs.length (fun g s3 s13 wr => ∃ (j : Nat), j ≤ bs.length ∧ bs.length - j ≤ g ∧ s13 = .int .i64 j ∧ s3 = .int .i64 (heldL (bs.take j) : Nat) ∧ w = wr)
  case atStart => exact ⟨0, by omega, by omega, by go_num, by rw [List.take_zero]; rfl, rfl⟩
  case round =>
    obtain ⟨j, hj, hg, rfl, rfl, rfl⟩ := hrel
    by_cases hlt : j < bs.length
    · have hltz : (j : Int) < (bs.length : Int) := by omega
      obtain ⟨z, hz⟩ : ∃ z, bs[j]? = some z := ⟨_, List.getElem?_eq_getElem hlt⟩
      obtain ⟨b0, o, c', hv, hb0, cs, _, ⟨vz, rfl, hvz⟩, _, hcc⟩ := HB.out.at hz
      have e0 := hcc 0 vz rfl
      simp only [Nat.mul_one, Nat.add_zero] at e0
      injection hv with hA _ hccc
      subst hA
      obtain ⟨Az, cz, rfl, _⟩ := hvz.shape
      obtain ⟨h1, h2⟩ := heldL_split bs j z hz
      have H1 := As.mk h1
      have hzl := hvz.len
      clear hvz hz hcc hccc h1
      generalize heldL (bs.take j) = m at *
      generalize heldL bs = mm at *
      go_wp2
      go_roundg (bs.length - (j + 1))
      case measure => omega
      case rel => exact ⟨j + 1, by omega, by omega, by go_num, by rw [H1.out]; go_num, rfl⟩
    · have hltz : ¬ (j : Int) < (bs.length : Int) := by omega
      obtain rfl : j = bs.length := by omega
      go_wp2
      go_ret
      exact ⟨rfl, rfl⟩
/-- (*Spine).Weight -/
def weightOf (S : GS) (r : List GV) : Int := match pick r S.cols with
  | none => 0
  | some key => weightL S.bs (encB key) (encB r)
theorem spWeight_nil (v : Value) (w : World) : Calls Tryz.prog 16 #[.pointer none, v] w fun e w' => e = .returned (.int .i64 0) ∧ w = w' := by
  go_enter Tryz.func16, Tryz.ntmps16
  go_wp2
  go_ret
  exact ⟨rfl, rfl⟩
theorem pick_unsound {r : List GV} {cols : List Int} (h : rsound r = false) : pick r cols = none := by unfold pick; rw [if_neg]; simp [h]
theorem spWeight_any (base b : Nat) (S : GS) (v : Value) (r : List GV) (w : World) (hw : GW w) (h : SpAt base b w S) (hR : ∀ z ∈ S.bs, Rise z) (hr : RdV w AnyB v r) :
    Calls Tryz.prog 16 #[.pointer (some ⟨b, 0, none⟩), v] w fun e w' => e = .returned (.int .i64 (weightOf S r)) ∧ Below w.heap.size w w' := by
  obtain ⟨u, bv, hb, hcs, hbs⟩ := h.bat
  have h1 := rSound_any v r w hr
  have h2 := fun W (hE : Below w.heap.size w W) => itemOf_any b u bv v S.live S.cols r W (hw.below hE) ((hE.block b (Array.getElem?_eq_some_iff.1 hb).1).trans hb) (hcs.ext hE) (hr.ext hE)
  have h3 := fun W (hE : Below w.heap.size w W) k e A n d => weight_any base b S k e A n d 0 W (h.ext hE) hR
  obtain ⟨A, c, rfl, hrc⟩ := hr.shape
  clear hr hb hcs hbs h hw hR
  unfold weightOf
  unfold ItemPost at h2
  cases hs : rsound r with
  | false =>
    rw [pick_unsound hs]
    rw [hs] at h1
    clear h2 h3 hs
    go_enter Tryz.func16, Tryz.ntmps16
    go_wp2_with (go_at_call 41; refine h1.mono ?_; rintro e w1 ⟨rfl, hE⟩)
    go_ret
    exact ⟨rfl, hE.below⟩
  | true =>
    rw [hs] at h1
    cases hp : pick r S.cols with
    | none =>
      rw [hp] at h2
      simp only at h2
      clear h3 hs hp
      go_enter Tryz.func16, Tryz.ntmps16
      go_wp2_with (first | (go_at_call 41; refine h1.mono ?_; rintro e w1 ⟨rfl, hE⟩) | (go_at_call 33; refine (h2 _ hE.below).mono ?_; rintro e w2 ⟨hB, rfl⟩))
      go_ret
      exact ⟨rfl, (hE.below.trans (hB.mono hE.size)).alloc (by have := hE.size; have := hB.size; omega) _⟩
    | some key =>
      rw [hp] at h2
      simp only at h2
      clear hs hp
      generalize weightL S.bs (encB key) (encB r) = ww at *
      go_enter Tryz.func16, Tryz.ntmps16
      go_wp2_with (first | (go_at_call 41; refine h1.mono ?_; rintro e w1 ⟨rfl, hE⟩) | (go_at_call 33; refine (h2 _ hE.below).mono ?_; rintro e w2 ⟨hB, A2, d2, rfl, hv2⟩; clear hv2) | (go_at_call 34; refine (h3 _ ((hE.below.trans (hB.mono hE.size)).alloc (Nat.le_trans hE.size hB.size) _) _ _ _ _ _).mono ?_; rintro e w3 ⟨rfl, hE3⟩))
      go_ret
      exact ⟨rfl, ((hE.below.trans (hB.mono hE.size)).alloc (Nat.le_trans hE.size hB.size) _).trans (hE3.below.mono (by have := hE.size; have := hB.size; simp; omega))⟩
end Go.Proofs.YtmpndmjfdijamaaGreatDoor
