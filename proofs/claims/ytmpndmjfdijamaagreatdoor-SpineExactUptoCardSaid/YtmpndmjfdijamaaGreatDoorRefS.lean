/- The walks of the reference's spine: New, Put, Get, All, Weight. -/
import Derived.Test.YtmpndmjfdijamaaGreatDoorRefV
set_option linter.unusedVariables false
set_option linter.unusedSimpArgs false
namespace Go.Proofs.YtmpndmjfdijamaaGreatDoor
open Go.RowKit Go.Sort
def CB : Blk := Fresh 0 [3]
def ZB : Blk := Fresh 0 [55, 47]
/-- The reference's spine in block b. -/
def RSAt (b : Nat) (w : World) (cols : List Int) (z : List GE) : Prop := ∃ vc vz, w.heap[b]? = some (.cells #[vc, vz] 49 (0, 0)) ∧ RdI w CB vc cols ∧ RdZ w ZB vz z
theorem RSAt.mv {b : Nat} {w w' : World} {cols : List Int} {z : List GE} (h : RSAt b w cols z) (hb : w'.heap[b]? = w.heap[b]?) (hc : Stays w w' CB CB) (hz : Stays w w' ZB ZB) : RSAt b w' cols z :=
  let ⟨vc, vz, h1, h2, h3⟩ := h; ⟨vc, vz, hb.trans h1, h2.mv hc, h3.mv hz⟩
theorem RSAt.lt {b : Nat} {w : World} {cols : List Int} {z : List GE} (h : RSAt b w cols z) : b < w.heap.size :=
  let ⟨_, _, h1, _⟩ := h; (Array.getElem?_eq_some_iff.1 h1).1
theorem RSAt.ext {b : Nat} {w w' : World} {cols : List Int} {z : List GE} (h : RSAt b w cols z) (hb : Below w.heap.size w w') : RSAt b w' cols z := h.mv (hb.block b h.lt) (Stays.below hb _) (Stays.below hb _)
theorem badCol_no {r : List Int} (h : ∀ x ∈ r, badCol x = false) (hl : r.length ≤ 1024) : colsOk r = true := by
  unfold colsOk
  rw [decide_eq_true hl, Bool.true_and, Bool.not_eq_true', List.any_eq_false]
  intro x hx
  rw [h x hx]; simp
theorem badCol_yes {r : List Int} {x : Int} (hx : x ∈ r) (h : badCol x = true) : colsOk r = false := by
  unfold colsOk
  rw [show r.any badCol = true from List.any_eq_true.2 ⟨x, hx, h⟩]; simp
/-- What New answers. -/
def NewRPost (r : List Int) (w : World) (e : Ending) (w' : World) : Prop := Below w.heap.size w w' ∧
  if colsOk r = false then e = .returned (.tuple #[.pointer none, .int .i64 1])
  else ∃ b, e = .returned (.tuple #[.pointer (some ⟨b, 0, none⟩), .int .i64 0]) ∧ w.heap.size ≤ b ∧ RSAt b w' r []
theorem NewRPost.bad {r : List Int} {w w' : World} (hB : Below w.heap.size w w') (h : colsOk r = false) : NewRPost r w (.returned (.tuple #[.pointer none, .int .i64 1])) w' := ⟨hB, by rw [if_pos h]⟩
theorem NewRPost.good {r : List Int} {w w' : World} {b : Nat} (hB : Below w.heap.size w w') (h : colsOk r = true) (hb : w.heap.size ≤ b) (hR : RSAt b w' r []) : NewRPost r w (.returned (.tuple #[.pointer (some ⟨b, 0, none⟩), .int .i64 0])) w' := ⟨hB, by rw [if_neg (by rw [h]; simp)]; exact ⟨b, rfl, hb, hR⟩⟩
set_option maxHeartbeats 4000000 in
set_option maxRecDepth 100000 in
theorem r4New_any (v : Value) (r : List Int) (w : World) (hr : RdI w AnyB v r) : Calls Tryz.prog 10 #[v] w (NewRPost r w) := by
  obtain ⟨A, c, rfl, hc⟩ := hr.shape
  have hrl := hr.len
  have HR := As.mk hr
  clear hr
  by_cases hbig : 1024 < r.length
  · have hz : (1024 : Int) < (r.length : Int) := by omega
    have HF : As (colsOk r = false) := ⟨by unfold colsOk; rw [decide_eq_false (by omega)]; rfl⟩
    go_enter Tryz.func10, Tryz.ntmps10
    go_wp2
    go_ret2
    exact NewRPost.bad (Below.refl _ _) HF.out
  have hz : ¬ (1024 : Int) < (r.length : Int) := by omega
  go_enter Tryz.func10, Tryz.ntmps10
  go_wp2_with fail
  go_loopg [4, 5] r.length (fun g s4 s5 wr => ∃ (k : Nat), k ≤ r.length ∧ r.length - k ≤ g ∧ s5 = .int .i64 k ∧ As (OwnL 1 EI 3 wr w.heap.size s4 (r.take k)) ∧ As (Below w.heap.size w wr) ∧ As (∀ x ∈ r.take k, badCol x = false))
  case atStart => exact ⟨0, by omega, by omega, by go_num, ⟨OwnL.made 1 EI 3 w w.heap.size #[] 0 (Nat.le_refl _) (by decide) rfl⟩, ⟨(Below.refl _ _).alloc (Nat.le_refl _) _⟩, ⟨by simp⟩⟩
  case round =>
    obtain ⟨k, hk, hg, rfl, HO, HB, HN⟩ := hrel
    by_cases hlt : k < r.length
    · have hltz : (k : Int) < (r.length : Int) := by omega
      obtain ⟨x, hx⟩ : ∃ x, r[k]? = some x := ⟨_, List.getElem?_eq_getElem hlt⟩
      have HX := As.mk hx
      obtain ⟨b, o, c', hv, hb, hxi, e0⟩ := HR.out.val hx
      injection hv with hA _ hcc
      subst hA
      replace e0 := (HB.out.cell (World.block_lt_of_cell? w _ e0)).trans e0
      have HXI := As.mk hxi
      have hxi1 := hxi.1
      have hxi2 := hxi.2
      have HTK : As (r.take (k + 1) = r.take k ++ [x]) := ⟨take_snoc hx⟩
      have hbz := HB.out.size
      have HLZ : As ((r.take k).length < 4294967296) := ⟨by rw [List.length_take]; omega⟩
      clear hx hxi hcc
      by_cases h0 : x < 0
      · have HF : As (badCol x = true) := ⟨by unfold badCol; simp; omega⟩
        go_wp2_with fail
        go_ret2
        exact NewRPost.bad HB.out (badCol_yes (List.mem_of_getElem? HX.out) HF.out)
      have h0b : decide (x < 0) = false := decide_eq_false h0
      by_cases h1 : 1023 < x
      · have HF : As (badCol x = true) := ⟨by unfold badCol; simp; omega⟩
        go_wp2_with fail
        go_ret2
        exact NewRPost.bad HB.out (badCol_yes (List.mem_of_getElem? HX.out) HF.out)
      have h1b : decide (1023 < x) = false := decide_eq_false h1
      have HF : As (badCol x = false) := ⟨by unfold badCol; simp; omega⟩
      go_wp2_with (at_builtin; go_loud (refine OwnL.append w.heap.size rfl (.tmp 28) (.tmp 33) 22 3 _ 1 8 rfl Tryz.underlying22 info_int rfl (by decide) (by decide) u4 (r.take k) x [.int .i64 x] rfl rfl (E := EI) ⟨rfl, HXI.out⟩ rfl (by simp [Value.oneCell']) HO.out HB.out hbz HLZ.out rfl ?_); intro v1 w2 hown hb' hg' hat; have HO2 := As.mk hown; have HB2 := As.mk hb'; clear hown hb' hg' hat)
      go_roundg (r.length - (k + 1))
      case measure => omega
      case rel => exact ⟨k + 1, by omega, by omega, by go_num, ⟨by rw [HTK.out]; exact HO2.out⟩, HB2, ⟨fun y hy => by
        rw [HTK.out] at hy
        rcases List.mem_append.1 hy with hy | hy
        · exact HN.out y hy
        · rw [List.mem_singleton.1 hy]; exact HF.out⟩⟩
    · have hltz : ¬ (k : Int) < (r.length : Int) := by omega
      obtain rfl : k = r.length := by omega
      rw [List.take_length] at HO HN
      have HC : As (RdI wr CB u4 r) := ⟨HO.out.rd fun k hk => ⟨Nat.zero_le _, by simp⟩⟩
      obtain ⟨A4, c4, rfl, _⟩ := HC.out.shape
      go_wp2_with fail
      go_ret2
      have hE : Ext wr (wr.alloc (.cells #[.slice A4 r.length c4, .slice none 0 0] 49)) := Ext.alloc (Ext.refl _) _
      exact NewRPost.good (HB.out.trans (hE.below.mono HB.out.size)) (badCol_no HN.out (by omega)) HB.out.size ⟨_, _, heap_alloc_new _ _, RdI.ext HC.out hE.below, RdL.nil _ _ _ _⟩
/-- What Put answers. -/
def rputE (cols : List Int) (z d : List GE) : Int :=
  if zsound d = false then 1 else if (d.any fun x => (pick x.row cols).isNone) = true then 1 else if zsound z = false then 1 else if overL (z ++ d) = true then 11 else 0
def RPutPost (b : Nat) (cols : List Int) (z d : List GE) (w : World) (e : Ending) (w' : World) : Prop :=
  w.grownBy w' (some b) ∧ e = .returned (.int .i64 (rputE cols z d)) ∧ (rputE cols z d ≠ 0 → RSAt b w' cols z) ∧ (rputE cols z d = 0 → ∃ z', Made (z ++ d) z' ∧ RSAt b w' cols z' ∧ z'.length ≤ z.length + d.length)
theorem RPutPost.err {b : Nat} {cols : List Int} {z d : List GE} {w w' : World} {k : Int} (hB : Below w.heap.size w w') (hR : RSAt b w cols z) (hk : rputE cols z d = k) (h0 : k ≠ 0) : RPutPost b cols z d w (.returned (.int .i64 k)) w' :=
  ⟨grown_of_below hB _, by rw [hk], fun _ => hR.ext hB, fun h => absurd (hk.symm.trans h) h0⟩
theorem pick_cases (r : List GV) (cols : List Int) : (∃ k, pick r cols = some k) ∨ pick r cols = none := by
  cases pick r cols with
  | none => exact .inr rfl
  | some k => exact .inl ⟨k, rfl⟩
theorem pick_at {w : World} {e : Ending} {w' : World} {r k : List GV} {cols : List Int} (hp : pick r cols = some k) (h : PickPost w (pick r cols) e w') : ∃ A c, e = .returned (.tuple #[.slice A k.length c, .int .i64 0]) ∧ RdV w' (Fresh w.heap.size [55]) (.slice A k.length c) k ∧ Below w.heap.size w w' := by
  rw [hp] at h
  obtain ⟨hb, u, he, hr⟩ := h
  obtain ⟨A, c, rfl, _⟩ := hr.shape
  exact ⟨A, c, he, hr, hb⟩
theorem pick_no {w : World} {e : Ending} {w' : World} {r : List GV} {cols : List Int} (hp : pick r cols = none) (h : PickPost w (pick r cols) e w') : e = .returned (.tuple #[.slice none 0 0, .int .i64 1]) ∧ Below w.heap.size w w' := by
  rw [hp] at h
  exact ⟨h.2, h.1⟩
set_option maxHeartbeats 8000000 in
set_option maxRecDepth 100000 in
theorem r4Put_any (b : Nat) (cols : List Int) (z : List GE) (v : Value) (d : List GE) (w : World) (h : RSAt b w cols z) (hd : RdZ w AnyB v d) (hl : z.length + d.length ≤ 2147483648) :
    Calls Tryz.prog 12 #[.pointer (some ⟨b, 0, none⟩), v] w (RPutPost b cols z d w) := by
  have mixed := mixed
  have h1 := r3Sound_any v d w hd
  obtain ⟨A, c, rfl, hc⟩ := hd.shape
  have hdl := hd.len
  have HD := As.mk hd
  have HS := As.mk h
  have HL := As.mk hl
  obtain ⟨vc, vz, hb, hvc, hvz⟩ := h
  obtain ⟨Bc, cc, rfl, _⟩ := hvc.shape
  obtain ⟨Bz, cz, rfl, _⟩ := hvz.shape
  have HVC := As.mk hvc
  have HVZ := As.mk hvz
  have HH := As.mk hb
  have hblt := HS.out.lt
  clear hd hl hb hvc hvz
  cases hs : zsound d with
  | false =>
    have HE : As (rputE cols z d = 1) := ⟨by unfold rputE; rw [if_pos hs]⟩
    rw [hs] at h1
    clear hs
    go_enter Tryz.func12, Tryz.ntmps12
    go_wp2_with (go_at_call 38; refine h1.mono ?_; rintro e w1 ⟨rfl, hE⟩)
    go_ret
    exact RPutPost.err hE.below HS.out HE.out (by decide)
  | true =>
    have HSD := As.mk hs
    rw [hs] at h1
    clear hs
    go_enter Tryz.func12, Tryz.ntmps12
    go_wp2_with fail
    refine h1.mono ?_
    rintro e w1 ⟨rfl, hE⟩
    have HB1 := As.mk hE.below
    clear hE h1
    go_wp2_with fail
    go_loopg [5, 6, 7] d.length (fun g s5 _ _ wr => ∃ (k : Nat), k ≤ d.length ∧ d.length - k ≤ g ∧ s5 = .int .i64 k ∧ As (Below w.heap.size w wr) ∧ As (∀ x ∈ d.take k, (pick x.row cols).isNone = false))
    case atStart => exact ⟨0, by omega, by omega, by go_num, HB1, ⟨by simp⟩⟩
    case round =>
      obtain ⟨k, hk, hg, rfl, HB, HN⟩ := hrel
      have hbz := HB.out.size
      obtain ⟨c0, c1, _⟩ := cells2 ((HB.out.block b hblt).trans HH.out)
      by_cases hlt : k < d.length
      · have hltz : (k : Int) < (d.length : Int) := by omega
        obtain ⟨x, hx⟩ : ∃ x, d[k]? = some x := ⟨_, List.getElem?_eq_getElem hlt⟩
        have HX := As.mk hx
        obtain ⟨b1, o1, c', A0, d0, hv, hb1, hxi, hrx, e0, e1⟩ := RdZ.ent HD.out hx
        injection hv with hA _ hcc
        subst hA
        replace e0 := (HB.out.cell (World.block_lt_of_cell? w _ e0)).trans e0
        have HP := As.mk (fun W (hE : Below wr.heap.size wr W) => r2Pick_any (.slice A0 x.row.length d0) (.slice Bc cols.length cc) x.row cols W ((hrx.ext HB.out).ext hE) (((HVC.out.mv (Stays.any _ _)).ext HB.out).ext hE))
        have HTK : As (d.take (k + 1) = d.take k ++ [x]) := ⟨take_snoc hx⟩
        clear hx hxi hrx hcc e1
        rcases pick_cases x.row cols with ⟨key, hp⟩ | hp
        · have HPK := As.mk hp
          clear hp
          go_wp2_with fail
          go_region_law (go_simp; go_at_call 22; refine (HP.out _ (by first | exact Below.refl _ _ | exact (Ext.drew (Ext.refl wr)).below)).mono ?_; rintro e w3 hpp; obtain ⟨A3, c3, rfl, _, hB3⟩ := pick_at HPK.out hpp; clear hpp)
          all_goals
            go_wp2_with fail
            go_roundg (d.length - (k + 1))
            case measure => omega
            case rel => exact ⟨k + 1, by omega, by omega, by go_num, ⟨HB.out.trans (((Ext.drew (Ext.refl wr)).below.trans (hB3.mono (Ext.drew (Ext.refl wr)).size)).mono hbz)⟩, ⟨fun y hy => by
              rw [HTK.out] at hy
              rcases List.mem_append.1 hy with hy | hy
              · exact HN.out y hy
              · rw [List.mem_singleton.1 hy, HPK.out]; rfl⟩⟩
        · have HPK := As.mk hp
          have HE : As (rputE cols z d = 1) := ⟨by unfold rputE; rw [if_neg (by rw [HSD.out]; simp), if_pos (List.any_eq_true.2 ⟨x, List.mem_of_getElem? HX.out, by rw [hp]; rfl⟩)]⟩
          clear hp
          go_wp2_with fail
          go_region_law (go_simp; go_at_call 22; refine (HP.out _ (by first | exact Below.refl _ _ | exact (Ext.drew (Ext.refl wr)).below)).mono ?_; rintro e w3 hpp; obtain ⟨rfl, hB3⟩ := pick_no HPK.out hpp; clear hpp)
          all_goals
            go_wp2_with fail
            go_ret
            exact RPutPost.err (HB.out.trans (((Ext.drew (Ext.refl wr)).below.trans (hB3.mono (Ext.drew (Ext.refl wr)).size)).mono hbz)) HS.out HE.out (by decide)
      · have hltz : ¬ (k : Int) < (d.length : Int) := by omega
        obtain rfl : k = d.length := by omega
        rw [List.take_length] at HN
        have HNA : As ((d.any fun x => (pick x.row cols).isNone) = false) := ⟨List.any_eq_false.2 fun x hx => by rw [HN.out x hx]; simp⟩
        have HP := As.mk (r3Add_any (.slice Bz z.length cz) (.slice A d.length c) z d wr ((HVZ.out.mv (Stays.any _ _)).ext HB.out) (HD.out.ext HB.out) HL.out)
        cases hz : zsound z with
        | false =>
          have HE : As (rputE cols z d = 1) := ⟨by unfold rputE; rw [if_neg (by rw [HSD.out]; simp), if_neg (by rw [HNA.out]; simp), if_pos hz]⟩
          have HZ0 := As.mk hz
          clear hz
          go_wp2_with (go_at_call 39; refine HP.out.mono ?_; rintro e w3 ⟨hB3, hpp⟩; rw [if_pos (.inl HZ0.out)] at hpp; subst hpp)
          go_ret
          exact RPutPost.err (HB.out.trans (hB3.mono hbz)) HS.out HE.out (by decide)
        | true =>
          have HZ0 : As (¬ (zsound z = false ∨ zsound d = false)) := ⟨by rw [hz, HSD.out]; simp⟩
          cases ho : overL (z ++ d) with
          | true =>
            have HE : As (rputE cols z d = 11) := ⟨by unfold rputE; rw [if_neg (by rw [HSD.out]; simp), if_neg (by rw [HNA.out]; simp), if_neg (by rw [hz]; simp), if_pos ho]⟩
            have HO0 := As.mk ho
            clear hz ho
            go_wp2_with (go_at_call 39; refine HP.out.mono ?_; rintro e w3 ⟨hB3, hpp⟩; rw [if_neg HZ0.out, if_pos HO0.out] at hpp; subst hpp)
            go_ret
            exact RPutPost.err (HB.out.trans (hB3.mono hbz)) HS.out HE.out (by decide)
          | false =>
            have HE : As (rputE cols z d = 0) := ⟨by unfold rputE; rw [if_neg (by rw [HSD.out]; simp), if_neg (by rw [HNA.out]; simp), if_neg (by rw [hz]; simp), if_neg (by rw [ho]; simp)]⟩
            have HO0 : As (¬ overL (z ++ d) = true) := ⟨by rw [ho]; simp⟩
            clear hz ho
            go_wp2_with (go_at_call 39; refine HP.out.mono ?_; rintro e w3 ⟨hB3, hpp⟩; rw [if_neg HZ0.out, if_neg HO0.out] at hpp; obtain ⟨v3, z3, rfl, hmade, hr3, hl3⟩ := hpp; obtain ⟨A3, c3, rfl, _⟩ := hr3.shape; have HM := As.mk hmade; have HR3 := As.mk hr3; have HL3 := As.mk hl3; have HB3 : As (Below w.heap.size w w3) := ⟨HB.out.trans (hB3.mono hbz)⟩; have hH3 := (HB3.out.block b hblt).trans HH.out; obtain ⟨k0, k1, _⟩ := cells2 hH3; have f0 := Lib.frozen_of_heap hH3 0; have f1 := Lib.frozen_of_heap hH3 1; have HH3 := As.mk hH3; clear hmade hr3 hl3 hB3 hH3)
            go_ret
            have hg : w.grownBy (w3.setCell ⟨b, 1, none⟩ (.slice A3 z3.length c3)) (some b) := (grown_of_below HB3.out _).trans ⟨rfl, rfl, rfl, by simp, fun k hk hne => heap_setCell_other w3 ⟨b, 1, none⟩ k _ (fun e => hne (by simp [e]))⟩
            have hst : ∀ ok : Blk, ¬ ok b 49 → Stays w3 (w3.setCell ⟨b, 1, none⟩ (.slice A3 z3.length c3)) ok ok := fun ok hok => Stays.set ok (fun t cells fr hh => by
              have e := tag_eq HH3.out hh
              rw [← e]; exact hok) _
            refine ⟨hg, by rw [HE.out]; rfl, fun h => absurd HE.out h, fun _ => ⟨z3, HM.out, ⟨.slice Bc cols.length cc, .slice A3 z3.length c3, by simpa using heap_setCell_same w3 b 1 _ _ (.slice A3 z3.length c3) HH3.out, (HVC.out.ext HB3.out).mv (hst _ (fun h => by have := h.2; simp at this)), ?_⟩, HL3.out⟩⟩
            exact RdZ.mv (RdL.move HR3.out (fun _ _ e => EE.mv e (Stays.mono (ok' := ZB) fun k t h => ⟨Nat.zero_le _, by have := h.2; simp at this; simp [this]⟩)) (Stays.mono (ok' := ZB) fun k t h => ⟨Nat.zero_le _, by have := h.2; simp at this; simp [this]⟩)) (hst _ (fun h => by have := h.2; simp at this))
theorem r4All_any (b : Nat) (cols : List Int) (z : List GE) (w : World) (h : RSAt b w cols z) : Calls Tryz.prog 15 #[.pointer (some ⟨b, 0, none⟩)] w fun e w' => ∃ A c, e = .returned (.slice A z.length c) ∧ RdZ w ZB (.slice A z.length c) z ∧ w = w' := by
  obtain ⟨vc, vz, hb, hvc, hvz⟩ := h
  obtain ⟨Bz, cz, rfl, _⟩ := hvz.shape
  obtain ⟨c0, c1, _⟩ := cells2 hb
  clear hb hvc
  go_enter Tryz.func15, Tryz.ntmps15
  go_wp2_with fail
  go_ret
  exact ⟨_, _, rfl, hvz, rfl⟩
theorem r4Weight_any (b : Nat) (cols : List Int) (z : List GE) (v : Value) (r : List GV) (w : World) (h : RSAt b w cols z) (hr : RdV w AnyB v r) : Calls Tryz.prog 17 #[.pointer (some ⟨b, 0, none⟩), v] w fun e w' => e = .returned (.int .i64 (rweight z r)) ∧ Ext w w' := by
  obtain ⟨vc, vz, hb, hvc, hvz⟩ := h
  have s1 := fun W (hE : Ext w W) => r3Weight_any vz v z r W ((hvz.mv (Stays.any _ _)).ext hE.below) (hr.ext hE.below)
  obtain ⟨Bz, cz, rfl, _⟩ := hvz.shape
  obtain ⟨Br, cr, rfl, _⟩ := hr.shape
  obtain ⟨c0, c1, _⟩ := cells2 hb
  clear hb hvc hvz hr
  go_enter Tryz.func17, Tryz.ntmps17
  go_wp2_with (go_at_call 42; refine (s1 _ (by repeat (first | (with_reducible exact Ext.refl _) | (with_reducible assumption) | (with_reducible apply Ext.alloc) | (with_reducible apply Ext.drewN) | (with_reducible apply Ext.drew) | (with_reducible apply Ext.grow) | (with_reducible refine Ext.trans ?_ (by with_reducible assumption))))).mono ?_; rintro e w1 ⟨rfl, hE⟩)
  go_ret
  exact ⟨rfl, (by repeat (first | (with_reducible exact Ext.refl _) | (with_reducible assumption) | (with_reducible apply Ext.alloc) | (with_reducible apply Ext.drewN) | (with_reducible apply Ext.drew) | (with_reducible apply Ext.grow) | (with_reducible refine Ext.trans ?_ (by with_reducible assumption))))⟩
theorem filter_snoc {α : Type} {l : List α} {k : Nat} {x : α} (p : α → Bool) (h : l[k]? = some x) : (l.take (k + 1)).filter p = if p x = true then (l.take k).filter p ++ [x] else (l.take k).filter p := by
  rw [take_snoc h, List.filter_append]
  by_cases hp : p x = true
  · rw [if_pos hp]; simp [hp]
  · rw [if_neg hp]; simp [hp]
set_option maxHeartbeats 8000000 in
set_option maxRecDepth 100000 in
theorem r4Get_any (b : Nat) (cols : List Int) (z : List GE) (v : Value) (key : List GV) (w : World) (h : RSAt b w cols z) (hv : RdV w AnyB v key) (hkey : ∀ x ∈ z, ∃ k, pick x.row cols = some k) :
    Calls Tryz.prog 20 #[.pointer (some ⟨b, 0, none⟩), v] w fun e w' => ∃ A c, e = .returned (.slice A (z.filter fun x => keyIs cols key x.row).length c) ∧ RdZ w' AnyB (.slice A (z.filter fun x => keyIs cols key x.row).length c) (z.filter fun x => keyIs cols key x.row) ∧ Below w.heap.size w w' := by
  have mixed := mixed
  obtain ⟨C, d, rfl, _⟩ := hv.shape
  have HK := As.mk hv
  have HS := As.mk h
  have hblt := HS.out.lt
  obtain ⟨vc, vz, hb, hvc, hvz⟩ := h
  obtain ⟨Bc, cc, rfl, _⟩ := hvc.shape
  obtain ⟨Bz, cz, rfl, _⟩ := hvz.shape
  have hzl := hvz.len
  have HVC := As.mk hvc
  have HVZ := As.mk hvz
  have HH := As.mk hb
  have HKEY := As.mk hkey
  clear hv hb hvc hvz hkey
  go_enter Tryz.func20, Tryz.ntmps20
  go_wp2_with fail
  go_loopg [5, 6, 7, 8] z.length (fun g s5 s6 _ _ wr => ∃ (k : Nat), k ≤ z.length ∧ z.length - k ≤ g ∧ s6 = .int .i64 k ∧ As (OwnL 2 (EE wr (Old w.heap.size)) 47 wr w.heap.size s5 ((z.take k).filter fun x => keyIs cols key x.row)) ∧ As (Below w.heap.size w wr))
  case atStart => exact ⟨0, by omega, by omega, by go_num, ⟨OwnL.made 2 _ 47 w w.heap.size #[] 0 (Nat.le_refl _) (by decide) rfl⟩, ⟨(Below.refl _ _).alloc (Nat.le_refl _) _⟩⟩
  case round =>
    obtain ⟨k, hk, hg, rfl, HO, HB⟩ := hrel
    have hbz := HB.out.size
    obtain ⟨c0, c1, _⟩ := cells2 ((HB.out.block b hblt).trans HH.out)
    by_cases hlt : k < z.length
    · have hltz : (k : Int) < (z.length : Int) := by omega
      obtain ⟨x, hx⟩ : ∃ x, z[k]? = some x := ⟨_, List.getElem?_eq_getElem hlt⟩
      obtain ⟨b1, o1, c', A0, d0, hv, hb1, hxi, hrx, e0, e1⟩ := RdZ.ent HVZ.out hx
      injection hv with hA _ hcc
      subst hA
      replace e0 := (HB.out.cell (World.block_lt_of_cell? w _ e0)).trans e0
      replace e1 := (HB.out.cell (World.block_lt_of_cell? w _ e1)).trans e1
      obtain ⟨q, hq⟩ := HKEY.out x (List.mem_of_getElem? hx)
      have HQ := As.mk hq
      have HP := As.mk (fun W (hE : Below wr.heap.size wr W) => r2Pick_any (.slice A0 x.row.length d0) (.slice Bc cols.length cc) x.row cols W (((hrx.mv (Stays.any _ _)).ext HB.out).ext hE) (((HVC.out.mv (Stays.any _ _)).ext HB.out).ext hE))
      have HFS := As.mk (filter_snoc (fun x : GE => keyIs cols key x.row) hx)
      have HKI : As (keyIs cols key x.row = sameR q key) := ⟨by unfold keyIs; rw [hq]⟩
      rw [HKI.out] at HFS
      have HXI := As.mk hxi
      have HRX : As (RdV wr (Old w.heap.size) (.slice A0 x.row.length d0) x.row) := ⟨(hrx.mv (Stays.old w _)).ext HB.out⟩
      have HLZ : As (((z.take k).filter fun x => keyIs cols key x.row).length < 4294967296) := ⟨by have := List.length_filter_le (fun x : GE => keyIs cols key x.row) (z.take k); rw [List.length_take] at this; omega⟩
      clear hx hxi hrx hcc hq
      have hE1 := (Ext.drew (Ext.refl wr)).below
      go_wp2_with fail
      go_region_law (go_simp; go_at_call 22; refine (HP.out _ (by first | exact Below.refl _ _ | exact hE1)).mono ?_; rintro e w3 hpp; obtain ⟨A3, c3, rfl, hr3, hB3⟩ := pick_at HQ.out hpp; clear hpp)
      all_goals
        have HW3 : As (Below wr.heap.size wr w3) := ⟨hE1.trans (hB3.mono hE1.size)⟩
        have h2 := fun W (hE : Below w3.heap.size w3 W) => same2_any (.slice A3 q.length c3) (.slice C key.length d) q key W ((hr3.mv (Stays.any _ _)).ext hE) (((HK.out.ext HB.out).ext HW3.out).ext hE)
        have k0 := (HW3.out.cell (World.block_lt_of_cell? wr _ e0)).trans e0
        have k1 := (HW3.out.cell (World.block_lt_of_cell? wr _ e1)).trans e1
        have kc := (HW3.out.cell (World.block_lt_of_cell? wr _ c1)).trans c1
        clear hr3 hB3
        generalize sameR q key = sq at *
        cases sq
        · rw [if_neg (by simp)] at HFS
          go_wp2_with (go_at_call 43; refine (h2 _ (Below.refl _ _)).mono ?_; rintro e w4 ⟨rfl, m4, rfl⟩)
          have HW4 : As (Below wr.heap.size wr (w3.drewN m4)) := ⟨HW3.out.trans ((Ext.drewN (Ext.refl w3) m4).below.mono HW3.out.size)⟩
          go_roundg (z.length - (k + 1))
          case measure => omega
          case rel => exact ⟨k + 1, by omega, by omega, by go_num, ⟨by rw [HFS.out]; exact (HO.out.below HW4.out).imp fun _ _ h => EE.mv h (Stays.below HW4.out _)⟩, ⟨HB.out.trans (HW4.out.mono hbz)⟩⟩
        · rw [if_pos rfl] at HFS
          have HO3 : As (OwnL 2 (EE w3 (Old w.heap.size)) 47 w3 w.heap.size u5 ((z.take k).filter fun x => keyIs cols key x.row)) := ⟨(HO.out.below HW3.out).imp fun _ _ h => EE.mv h (Stays.below HW3.out _)⟩
          have HBW3 : As (Below w.heap.size w w3) := ⟨HB.out.trans (HW3.out.mono hbz)⟩
          have HRX3 := As.mk (HRX.out.ext HW3.out)
          clear HO HKI
          obtain ⟨xr, xw⟩ := x
          simp only at *
          generalize (z.take k).filter (fun x => keyIs cols key x.row) = outs at *
          go_wp2_with (first | (go_at_call 43; refine (h2 _ (Below.refl _ _)).mono ?_; rintro e w4 ⟨rfl, m4, hw4⟩; have hE4 : Ext w3 w4 := hw4 ▸ Ext.drewN (Ext.refl _) _; have g0 := hE4.cell k0; have g1 := hE4.cell k1; have g2 := hE4.cell kc; have HO4 := As.mk ((HO3.out.ext hE4).imp fun _ _ h => EE.mv h (Stays.below hE4.below (Old w.heap.size))); have HR4 := As.mk (HRX3.out.ext hE4.below); have HB4 : As (Below w.heap.size w w4) := ⟨HBW3.out.trans (hE4.below.mono HBW3.out.size)⟩; have hz4 := HB4.out.size; clear hw4 hE4) | (at_builtin; go_loud (refine OwnL.append (W := w4) w.heap.size rfl (.tmp 42) (.tmp 50) 35 47 _ 2 32 rfl Tryz.underlying35 info_entry rfl (by decide) (by decide) u5 outs ⟨xr, xw⟩ [.slice A0 xr.length d0, .int .i64 xw] rfl rfl (E := EE w4 (Old w.heap.size)) ⟨_, rfl, HXI.out, HR4.out⟩ rfl (by simp [Value.oneCell']) HO4.out HB4.out hz4 HLZ.out rfl ?_); intro v1 w5 hown hb' hg' hat; have HO5 := As.mk (hown.imp fun _ _ h => EE.mv h (Stays.grown hg' (Old w.heap.size) fun g t cells fr hgb hh ho => by have h1 := (HO4.out.lt g hgb).1; have h2 : g < w.heap.size := ho; omega)); have HB5 := As.mk hb'; clear hown hb' hg' hat))
          go_roundg (z.length - (k + 1))
          case measure => omega
          case rel => exact ⟨k + 1, by omega, by omega, by go_num, ⟨by rw [HFS.out]; exact HO5.out⟩, HB5⟩
    · have hltz : ¬ (k : Int) < (z.length : Int) := by omega
      obtain rfl : k = z.length := by omega
      rw [List.take_length] at HO
      obtain ⟨A5, c5, rfl, _⟩ := HO.out.shape
      go_wp2_with fail
      go_ret
      exact ⟨_, _, rfl, RdL.move (HO.out.rd (ok := AnyB) fun _ _ => trivial) (fun _ _ e => EE.mv e (Stays.any _ _)) (Stays.any _ _), HB.out⟩
theorem r4Put_nil (v : Value) (w : World) : Calls Tryz.prog 12 #[.pointer none, v] w fun e w' => e = .returned (.int .i64 2) ∧ w = w' := by
  go_enter Tryz.func12, Tryz.ntmps12
  go_wp2
  go_ret
  exact ⟨rfl, rfl⟩
theorem r4All_nil (w : World) : Calls Tryz.prog 15 #[.pointer none] w fun e w' => e = .returned (.slice none 0 0) ∧ w = w' := by
  go_enter Tryz.func15, Tryz.ntmps15
  go_wp2
  go_ret
  exact ⟨rfl, rfl⟩
theorem r4Weight_nil (v : Value) (w : World) : Calls Tryz.prog 17 #[.pointer none, v] w fun e w' => e = .returned (.int .i64 0) ∧ w = w' := by
  go_enter Tryz.func17, Tryz.ntmps17
  go_wp2
  go_ret
  exact ⟨rfl, rfl⟩
theorem r4Get_nil (v : Value) (w : World) : Calls Tryz.prog 20 #[.pointer none, v] w fun e w' => (∃ A c, e = .returned (.slice A 0 c) ∧ RdZ w' AnyB (.slice A 0 c) []) ∧ Below w.heap.size w w' := by
  go_enter Tryz.func20, Tryz.ntmps20
  go_wp2_with fail
  go_loopg [5, 6] 1 (fun g s5 s6 wr => s5 = .slice (some ⟨w.heap.size, 0, none⟩) 0 0 ∧ s6 = .int .i64 0 ∧ wr = w.alloc (.cells #[] 47))
  case atStart => exact ⟨rfl, by go_num, rfl⟩
  case round =>
    obtain ⟨rfl, rfl, rfl⟩ := hrel
    go_wp2_with fail
    go_ret
    exact ⟨⟨_, _, rfl, RdL.move ((OwnL.made 2 (EE w AnyB) 47 w w.heap.size #[] 0 (Nat.le_refl _) (by decide) rfl).rd (ok := AnyB) fun _ _ => trivial) (fun _ _ e => EE.mv e (Stays.below (Ext.alloc (Ext.refl w) _).below _)) (Stays.any _ _)⟩, (Below.refl _ _).alloc (Nat.le_refl _) _⟩
end Go.Proofs.YtmpndmjfdijamaaGreatDoor
