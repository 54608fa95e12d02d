/- The walk of a join's Step. -/
import Derived.Test.YtflckpfpgpfjlaaGreatDoorMJsr
import Derived.Deep.RegionHeld3
import Derived.BigQuiet
set_option linter.unusedVariables false
set_option linter.unusedSimpArgs false
namespace Go.Proofs.YtflckpfpgpfjlaaGreatDoor
open Go.RowKit Go.Sort
/-- The cells that Step reads. -/
structure StC (w : World) (b bl br b1 o1 : Nat) (lv rv dav dzv : Value) (wl wr broken : Int) : Prop where
  c0 : w.cell? ⟨b, 0, none⟩ = some lv
  c1 : w.cell? ⟨b, 1, none⟩ = some (.int .i64 wl)
  c2 : w.cell? ⟨b, 2, none⟩ = some (.pointer (some ⟨bl, 0, none⟩))
  c3 : w.cell? ⟨b, 3, none⟩ = some rv
  c4 : w.cell? ⟨b, 4, none⟩ = some (.int .i64 wr)
  c5 : w.cell? ⟨b, 5, none⟩ = some (.pointer (some ⟨br, 0, none⟩))
  c6 : w.cell? ⟨b, 6, none⟩ = some (.int .i64 broken)
  e0 : w.cell? ⟨b1, o1, none⟩ = some dav
  e1 : w.cell? ⟨b1, o1 + 1, none⟩ = some dzv
theorem StC.below {w w' : World} {b bl br b1 o1 : Nat} {lv rv dav dzv : Value} {wl wr broken : Int} (h : StC w b bl br b1 o1 lv rv dav dzv wl wr broken) (hb : Below w.heap.size w w') : StC w' b bl br b1 o1 lv rv dav dzv wl wr broken :=
  ⟨bc hb h.c0, bc hb h.c1, bc hb h.c2, bc hb h.c3, bc hb h.c4, bc hb h.c5, bc hb h.c6, bc hb h.e0, bc hb h.e1⟩
/-- No block from n on but those between lo and hi. -/
def Apart (n lo hi : Nat) (k : Nat) : Prop := n ≤ k ∧ (k < lo ∨ hi ≤ k)
theorem PAt.re {P P' : Nat → Prop} {base p : Nat} {w : World} {xs : List GE} {o : Bool} (h : PAt P base p w xs o) (hp : ∀ k, k < w.heap.size → P k → P' k) : PAt P' base p w xs o := by
  obtain ⟨v, h1, h2, h3, h4⟩ := h
  exact ⟨v, h1, h2, h3, fun g hg => hp g (h2.lt g hg).2 (h4 g hg)⟩
theorem PAt.new (w : World) (n : Nat) (hn : n ≤ w.heap.size) : PAt (fun k => n ≤ k) n w.heap.size (w.alloc (.cells #[.slice none 0 0, .bool false] 77)) [] false :=
  ⟨_, heap_alloc_new w _, OwnL.nil _ _ _ _ _, hn, fun g hg => by cases hg⟩
theorem MetPost.at {n0 : Nat} {cols : List Int} {z d : List GE} {key : List GV} {w w' : World} {e : Ending} (h : MetPost n0 cols z d key w e w') {ys : List GSp} (hy : metL cols z d key = ys) : ∃ A c, e = .returned (.slice A ys.length c) ∧ RdL 3 (ESp w' (Row0 n0)) w' (Fresh w.heap.size [83]) (.slice A ys.length c) ys ∧ Below w.heap.size w w' := by
  subst hy
  exact h
theorem Mup.row0 {n lo hi p : Nat} {w w' : World} (h : Mup (Apart n lo hi) p w w') (hn : n ≤ p) {cs : Array Value} {fz : Nat × Nat} (hp : w.heap[p]? = some (.cells cs 77 fz)) : Stays w w' (Row0 n) (fun k t => Row0 n k t ∧ k ≠ p) := by
  intro k t cells f ho hh
  have hne : k ≠ p := by
    rintro rfl
    rcases ho.1 with h1 | h1
    · omega
    · have := tag_eq hh hp
      subst h1
      revert this
      decide
  refine ⟨⟨⟨ho.1, hne⟩, ho.2.imp id fun h => ⟨h, hne⟩⟩, h.block k _ hh hne ?_⟩
  rcases ho.1 with h1 | h1
  · exact .inl fun hq => by have := hq.1; omega
  · refine .inr fun c fz e => ?_
    injection e with _ h4 _
    rw [h1] at h4
    revert h4
    decide
theorem Mup.cell {P : Nat → Prop} {p : Nat} {w w' : World} (h : Mup P p w w') {k o : Nat} {v : Value} (hc : w.cell? ⟨k, o, none⟩ = some v) (hne : k ≠ p) (hP : ¬ P k) : w'.cell? ⟨k, o, none⟩ = some v := by
  have hlt := World.block_lt_of_cell? w ⟨k, o, none⟩ hc
  have e : w'.heap[k]? = w.heap[k]? := by rw [h.block k _ (Array.getElem?_eq_getElem hlt) hne (.inl hP), Array.getElem?_eq_getElem hlt]
  unfold World.cell? at *
  simp only at *
  rw [e]
  exact hc
theorem metL_row {cols : List Int} {z d : List GE} {key : List GV} {y : GSp} (h : y ∈ metL cols z d key) : ∃ x ∈ z ++ d, y.row = x.row := by
  unfold metL at h
  rcases List.mem_append.1 h with h | h
  · obtain ⟨x, hx, rfl⟩ := List.mem_map.1 h
    exact ⟨x, List.mem_append_left _ (List.mem_filter.1 hx).1, rfl⟩
  · obtain ⟨x, hx, rfl⟩ := List.mem_map.1 h
    exact ⟨x, List.mem_append_right _ (List.mem_filter.1 hx).1, rfl⟩
theorem rowOk_len {r : List GV} (h : RowOk r) : r.length ≤ 1024 := by
  have h1 := h.1
  unfold rsound at h1
  rw [Bool.and_eq_true, decide_eq_true_eq] at h1
  exact h1.1
theorem Bag.i64 {S : GS} {cols : List Int} {z : List GE} (h : Bag S cols z) (r : List GV) : i64 (zw z r) := by
  have h1 := h.fair.at h.told.ok r
  unfold Go.Proofs.YtflckpfpgpfjlaaGreatDoor.fair at h1
  rw [Bool.and_eq_true, decide_eq_true_eq, decide_eq_true_eq] at h1
  unfold Go.Proofs.YtflckpfpgpfjlaaGreatDoor.i64
  omega
/-- Three cells of a span. -/
theorem RdP.span {w : World} {ok ok2 : Blk} {v : Value} {z : List GSp} (h : RdL 3 (ESp w ok) w ok2 v z) {j : Nat} {x : GSp} (hj : z[j]? = some x) : ∃ b o c A d, v = .slice (some ⟨b, o, none⟩) z.length c ∧ b < w.heap.size ∧ (i64 x.before ∧ i64 x.now) ∧
    RdV w ok (.slice A x.row.length d) x.row ∧ w.cell? ⟨b, o + j * 3, none⟩ = some (.slice A x.row.length d) ∧ w.cell? ⟨b, o + j * 3 + 1, none⟩ = some (.int .i64 x.before) ∧ w.cell? ⟨b, o + j * 3 + 2, none⟩ = some (.int .i64 x.now) := by
  obtain ⟨b, o, c, hv, hb, cs, _, ⟨u, rfl, hx, hx2, hr⟩, _, hc⟩ := h.at hj
  obtain ⟨A, d, rfl, _⟩ := hr.shape
  exact ⟨b, o, c, A, d, hv, hb, ⟨hx, hx2⟩, hr, hc 0 _ rfl, hc 1 _ rfl, hc 2 _ rfl⟩
theorem span_cells (w : World) (a b c : Value) (T : TypeId) : (w.alloc (.cells #[a, b, c] T)).cell? ⟨w.heap.size, 0, none⟩ = some a ∧ (w.alloc (.cells #[a, b, c] T)).cell? ⟨w.heap.size, 1, none⟩ = some b ∧ (w.alloc (.cells #[a, b, c] T)).cell? ⟨w.heap.size, 2, none⟩ = some c := by
  have h1 : (w.alloc (.cells #[a, b, c] T)).heap[w.heap.size]? = some (.cells #[a, b, c] T (0, 0)) := heap_alloc_new w _
  refine ⟨?_, ?_, ?_⟩ <;> rw [Lib.cell_of_heap h1] <;> rfl
theorem PAt.head {P : Nat → Prop} {base p : Nat} {w : World} {xs : List GE} {o : Bool} (h : PAt P base p w xs o) : base ≤ p ∧ p < w.heap.size ∧ ∃ cs, w.heap[p]? = some (.cells cs 77 (0, 0)) := let ⟨_, h1, _, h3, _⟩ := h; ⟨h3, (Array.getElem?_eq_some_iff.1 h1).1, _, h1⟩
theorem fresh_span {n : Nat} : ∀ k t, Fresh n [83] k t → t ≠ 77 ∧ t ≠ 66 ∧ Fresh n [83] k t := by
  intro k t h
  have h2 := h.2
  simp only [List.mem_cons, List.not_mem_nil, or_false] at h2
  subst h2
  exact ⟨by decide, by decide, h⟩
theorem BagPost.at {cols : List Int} {z : List GE} {key : List GV} {w w' : World} {e : Ending} (h : BagPost cols z key w e w') {ys : List GE} (hy : (z.filter fun x => keyIs cols key x.row) = ys) : ∃ A c, e = .returned (.slice A ys.length c) ∧ RdZ2 w' w.heap.size (.slice A ys.length c) ys ∧ Below w.heap.size w w' := by
  subst hy
  exact h
/-- The blocks between lo and hi. -/
def Mid (lo hi : Nat) : Blk := fun k _ => lo ≤ k ∧ k < hi
theorem Mup.mid {n lo hi p : Nat} {w w' : World} (h : Mup (Apart n lo hi) p w w') (hp : p < lo) : Stays w w' (Mid lo hi) (Mid lo hi) := fun k t cells f ho hh => ⟨ho, h.block k _ hh (by have := ho.1.1; omega) (.inl fun hq => by have h1 := ho.1; have h2 := hq.2; unfold Mid at h1; omega)⟩
theorem g2_yes {da : List GE} {s : GSp} {x : GE} (h : zw da x.row = 0) : g2 da s x = out1 (still x) s ∧ q2 da s x = over1 (still x) s := by
  unfold g2 q2
  rw [if_pos h, decide_eq_true h]
  exact ⟨rfl, rfl⟩
theorem g2_no {da : List GE} {s : GSp} {x : GE} (h : ¬ zw da x.row = 0) : g2 da s x = [] ∧ q2 da s x = false := by
  unfold g2 q2
  rw [if_neg h, decide_eq_false h]
  exact ⟨rfl, rfl⟩
theorem rgc {w : World} {a : Addr} {v : Value} (h : w.cell? a = some v) : ∀ d os, (Go.Sort.grow (redrawn w d) os).cell? a = some v := fun d os => cell_regrown h d os
theorem JMut.since {R : Nat → Prop} {n m : Nat} {w w4 w6 : World} (h : JMut R w w4) (k : JMut (Since R n m) w4 w6) (hn : w.heap.size ≤ n) : JMut R w w6 := h.trans k fun i hi hs => by
  rcases hs with hs | hs
  · exact hs
  · have := hs.1
    omega
theorem StepPost.bad {R : Nat → Prop} {b bl br : Nat} {lc rc : List Int} {nl nr : Int} {a z da dz : List GE} {w w' : World} (h : badJ lc rc a z da dz = true) (hr : JRet R b bl br lc rc nl nr a z da dz w w' 14) : StepPost R b bl br lc rc nl nr a z da dz w (.returned (.tuple #[.slice none 0 0, .int .i64 14])) w' := by
  unfold StepPost
  rw [if_pos h]
  exact ⟨rfl, hr⟩
theorem StepPost.good {R : Nat → Prop} {b bl br : Nat} {lc rc : List Int} {nl nr : Int} {a z da dz d : List GE} {w w' : World} {v : Value} (h : badJ lc rc a z da dz = false) (hm : Made (outsJ lc rc a z da dz) d) {m : Nat} (hv : RdZ2 w' m v d) (hr : JRetM R m b bl br lc rc nl nr a z da dz w w' 0) : StepPost R b bl br lc rc nl nr a z da dz w (.returned (.tuple #[v, .int .i64 0])) w' := by
  unfold StepPost
  rw [if_neg (by rw [h]; decide)]
  exact ⟨v, d, m, rfl, hm, hv, hr⟩
theorem GW.jmut {R : Nat → Prop} {w w' : World} (h : GW w) (hm : JMut R w w') (hg : ¬ R 0) : GW w' := by
  obtain ⟨m, hm'⟩ := h
  refine ⟨m, ?_⟩
  have hlt := World.block_lt_of_cell? w ⟨0, 0, none⟩ hm'
  have e : w'.heap[0]? = w.heap[0]? := by rw [hm.block _ _ (Array.getElem?_eq_getElem hlt) (.inl hg), Array.getElem?_eq_getElem hlt]
  unfold World.cell? at *
  simp only at *
  rw [e]
  exact hm'
theorem JRet.of {R R' : Nat → Prop} {b bl br : Nat} {lc rc : List Int} {nl nr br0 br1 : Int} {a z da dz a4 z6 : List GE} {SL SR SL4 SR6 : GS} {w w6 w7 : World} (hw : JIn R b bl br w lc rc nl nr br0 SL SR) (hI : JIn R' b bl br w6 lc rc nl nr br1 SL4 SR6) (hM : JMut R w w6) (hR' : ∀ k, R' k → Since R w.heap.size w6.heap.size k)
    (hb4 : Bag SL4 lc a4) (hb6 : Bag SR6 rc z6) (h4 : putE lc a da = 0 → ZSum a da a4) (h6 : putE rc z dz = 0 → ZSum z dz z6) (hB : Below w6.heap.size w6 w7) :
    JRetM R w6.heap.size b bl br lc rc nl nr a z da dz w w7 br1 ∧ ∀ q W, Ext (w7.setCell ⟨b, 6, none⟩ (.int .i64 q)) W → JRet R b bl br lc rc nl nr a z da dz w W q := by
  have hsub : ∀ W : World, w7.heap.size ≤ W.heap.size → (∀ k, R' k → Since R w.heap.size W.heap.size k) ∧ ∀ k, Since R w.heap.size W.heap.size k → k < W.heap.size := fun W hW => ⟨fun k hk => by
    rcases hR' k hk with h | h
    · exact .inl h
    · exact .inr ⟨h.1, by have := hB.size; omega⟩, fun k hk => by
    rcases hk with h | h
    · have h1 := hw.1.2.2.2 k h
      have h2 := hM.size
      have h3 := hB.size
      omega
    · exact h.2⟩
  refine ⟨⟨hM.size, hB.size, hM.below hB, a4, z6, ⟨SL4, SR6, (hI.ext hB).sub hR' (fun k hk => (hsub w7 (Nat.le_refl _)).2 k (hk.imp id fun h => ⟨h.1, Nat.lt_of_lt_of_le h.2 hB.size⟩)), hb4, hb6⟩, h4, h6⟩, fun q W hE => ?_⟩
  obtain ⟨cs, hob⟩ := hw.opB
  have hs := hE.size
  simp at hs
  exact ⟨((hM.below hB).set hw.1.1 hob).below hE.below, a4, z6, ⟨SL4, SR6, (((hI.ext hB).broke q).ext hE.below).sub (hsub W hs).1 (hsub W hs).2, hb4, hb6⟩, h4, h6⟩
set_option maxRecDepth 100000 in
set_option maxHeartbeats 4000000 in
theorem jStep_walk (R : Nat → Prop) (b bl br b1 o1 cc : Nat) (B1 B2 D1 D2 : Option Addr) (n1 m1 n2 m2 dc1 dc2 : Nat) (lc rc : List Int) (nl nr : Int) (a z da dz : List GE) (SL SR : GS) (w : World) (hw : GW w) (hI : JIn R b bl br w lc rc nl nr 0 SL SR) (bL : Bag SL lc a) (bR : Bag SR rc z)
    (hC : StC w b bl br b1 o1 (.slice B1 n1 m1) (.slice B2 n2 m2) (.slice D1 da.length dc1) (.slice D2 dz.length dc2) nl nr 0) (hJ : JC w bl br (.slice B1 n1 m1) (.slice B2 n2 m2) (.slice D1 da.length dc1) (.slice D2 dz.length dc2) nl nr lc rc a z da dz)
    (hda : RdZ w AnyB (.slice D1 da.length dc1) da) (hdz : RdZ w AnyB (.slice D2 dz.length dc2) dz) (hG : ¬ R 0) (hE : ∀ w', JMut R w w' → w'.cell? ⟨b1, o1, none⟩ = some (.slice D1 da.length dc1) ∧ w'.cell? ⟨b1, o1 + 1, none⟩ = some (.slice D2 dz.length dc2)) (hdzS : RdZ w (Safe R) (.slice D2 dz.length dc2) dz) (hfa : fitsZ nl da = true) (hfz : fitsZ nr dz = true) (hN : (a.length + da.length) * (z.length + dz.length) ≤ 2147483648) (na : a.length + da.length ≤ 1073741824) (nz : z.length + dz.length ≤ 1073741824) :
    Calls Tryz.prog 13 #[.pointer (some ⟨b, 0, none⟩), .slice (some ⟨b1, o1, none⟩) 2 cc] w (StepPost R b bl br lc rc nl nr a z da dz w) := by
  have mixed := mixed
  have hF1 := fun (n : Nat) (os : Array Obj) => jFits_any B1 n1 m1 (.slice D1 da.length dc1) nl (some ⟨bl, 0, none⟩) da (Go.Sort.grow (w.drewN n) os) (hda.ext (Ext.grow (Ext.refl w) n os).below)
  have hF2 := fun (n : Nat) (os : Array Obj) => jFits_any B2 n2 m2 (.slice D2 dz.length dc2) nr (some ⟨br, 0, none⟩) dz (Go.Sort.grow (w.drewN n) os) (hdz.ext (Ext.grow (Ext.refl w) n os).below)
  rw [hfa] at hF1
  rw [hfz] at hF2
  have c0 := gc hC.c0
  have c1 := gc hC.c1
  have c2 := gc hC.c2
  have c3 := gc hC.c3
  have c4 := gc hC.c4
  have c5 := gc hC.c5
  have c6 := gc hC.c6
  have e0 := gc hC.e0
  have e1 := gc hC.e1
  have HW := As.mk hw
  have HI := As.mk hI
  have HC := As.mk hC
  have HJ := As.mk hJ
  have HDA := As.mk (RdZ.mv hda (Stays.widen (ok' := Row0 w.heap.size) fun k t hk _ => .inl hk))
  have HDZ := As.mk (RdZ.mv hdz (Stays.widen (ok' := Row0 w.heap.size) fun k t hk _ => .inl hk))
  have HN := As.mk hN
  have HEE := As.mk hE
  have HDS := As.mk hdzS
  have HG0 := As.mk hG
  have HRA := As.mk (fun x (hx : x ∈ da) => (⟨((zsound_parts (fits_parts hfa).1).1 x hx).2.2, hda.vals x hx⟩ : RowOk x.row))
  have HRZ := As.mk (fun x (hx : x ∈ dz) => (⟨((zsound_parts (fits_parts hfz).1).1 x hx).2.2, hdz.vals x hx⟩ : RowOk x.row))
  have BL := As.mk bL
  have BR := As.mk bR
  clear hw hI hC hJ hda hdz hN bL bR hE hdzS hG
  go_enter Tryz.func13, Tryz.ntmps13
  go_wp2_with fail
  (refine wp_region_quiet_grown (by assumption) (by kernel_rfl) ?_; (repeat (go_big_quiet_step ( (go_at_call 29; first | (with_reducible exact grown_ext (hF1 _ _)) | (with_reducible exact grown_ext (hF2 _ _))) ))); refine wpQuiet_nil ?_; intro _ hw'; obtain ⟨⟨nq, osq⟩, hw''⟩ := hw'; subst hw'')
  have HE1 : As (Ext w (Go.Sort.grow (w.drewN nq) osq)) := ⟨Ext.grow (Ext.refl w) nq osq⟩
  generalize Go.Sort.grow (w.drewN nq) osq = w1 at *
  clear c0 c1 c2 c3 c4 c5 c6 e0 e1 hF1 hF2
  obtain ⟨c0, c1, c2, c3, c4, c5, c6, e0, e1⟩ := HC.out.below HE1.out.below
  have HA : As (Ext w1 (w1.alloc (.cells #[.slice none 0 0, .bool false] 77))) := ⟨Ext.alloc (Ext.refl w1) _⟩
  have HP1 := As.mk (PAt.new w1 w.heap.size HE1.out.size)
  have hp0 : w.heap.size ≤ w1.heap.size := HE1.out.size
  have e0' := HA.out.cell e0
  have HB2 := As.mk (HE1.out.trans HA.out).below
  go_wp2_with fail
  go_loopg [8, 9, 11, 64, 92] da.length (fun g _ _ _ s64 _ wr => ∃ k : Nat, k ≤ da.length ∧ da.length - k ≤ g ∧ s64 = .int .i64 k ∧ As (PAt (fun k => w.heap.size ≤ k) w.heap.size w1.heap.size wr ((da.take k).flatMap (f1 lc rc a z dz)) ((da.take k).any (p1 lc rc a z dz))) ∧ As (Below w.heap.size w wr))
  case atStart => exact ⟨0, Nat.zero_le _, by omega, rfl, HP1, HB2⟩
  case round =>
    obtain ⟨k, hk, hg, rfl, HP, HBR⟩ := hrel
    clear c0 c1 c2 c3 c4 c5 c6 e0 e1 e0'
    by_cases hlt : k < da.length
    · have hltz : (k : Int) < (da.length : Int) := by omega
      obtain ⟨x, hx⟩ : ∃ x, da[k]? = some x := ⟨_, List.getElem?_eq_getElem hlt⟩
      obtain ⟨b2, o2, c2', A2, d2, hv, hb2, hxw, hrow, q0, q1⟩ := RdZ.ent (HDA.out.ext HBR.out) hx
      injection hv with hA _ hcc
      subst hA hcc
      obtain ⟨x0, x1⟩ := row2 wr (.slice A2 x.row.length d2) (.int .i64 x.w) 66
      have HE0 : As (Ext wr (wr.alloc (.cells #[.slice A2 x.row.length d2, .int .i64 x.w] 66))) := ⟨Ext.alloc (Ext.refl _) _⟩
      obtain ⟨c0, c1, c2, c3, c4, c5, c6, e0, e1⟩ := (HC.out.below HBR.out).below HE0.out.below
      have HX := As.mk hx
      have HROW := As.mk hrow
      have HBY := As.mk (HBR.out.trans (HE0.out.below.mono HBR.out.size))
      have HXI := As.mk hxw
      clear hx hrow hxw
      obtain ⟨xr, xw⟩ := x
      simp only at *
      go_wp2_with fail
      generalize hcb : wr.heap.size = cb at *
      generalize hW0 : wr.alloc (Obj.cells #[Value.slice A2 xr.length d2, Value.int IntKind.i64 xw] 66) = W0 at *
      have HWT := As.mk (fun d os => HJ.out.wtL (Go.Sort.grow (redrawn W0 d) os) xr A2 d2 (HBY.out.trans ((below_regrown W0 d os).mono HBY.out.size)) (((HROW.out.mv (Stays.any _ _)).ext HE0.out.below).ext (below_regrown W0 d os)))
      have HRX : RowOk xr := HRA.out _ (List.mem_of_getElem? HX.out)
      have HF1 : As ((da.take (k + 1)).flatMap (f1 lc rc a z dz) = (da.take k).flatMap (f1 lc rc a z dz) ++ (metL rc z dz (keyOf lc xr)).flatMap (out1 ⟨xr, zw a xr, wrap64 (zw a xr + xw)⟩)) := ⟨by rw [flat_take da (f1 lc rc a z dz) HX.out]; rfl⟩
      have HP1' : As ((da.take (k + 1)).any (p1 lc rc a z dz) = ((da.take k).any (p1 lc rc a z dz) || (metL rc z dz (keyOf lc xr)).any (over1 ⟨xr, zw a xr, wrap64 (zw a xr + xw)⟩))) := ⟨by rw [any_take da (p1 lc rc a z dz) HX.out]; rfl⟩
      have HKY := As.mk (fun W hb => HJ.out.keyL W xr A2 d2 (HBY.out.trans (hb.mono HBY.out.size)) (((HROW.out.mv (Stays.any _ _)).ext HE0.out.below).ext hb))
      have HKO : As (RowOk (keyOf lc xr)) := ⟨keyOf_ok HRX⟩
      have HMT := As.mk (fun W A c hb hv => HJ.out.met W (keyOf lc xr) A c hb HKO.out hv)
      have HYL := As.mk (metL_len rc z dz (keyOf lc xr))
      have HYR : As (∀ y ∈ metL rc z dz (keyOf lc xr), y.row.length ≤ 1024) := ⟨fun y hy => by
        obtain ⟨u, hu, e⟩ := metL_row hy
        rw [e]
        rcases List.mem_append.1 hu with hu | hu
        · exact rowOk_len (BR.out.told.ok.row u hu)
        · exact rowOk_len (HRZ.out u hu)⟩
      have hxl := rowOk_len HRX
      have HIO := As.mk (BL.out.i64 xr)
      have HML := As.mk (fun j (s : GSp) => pre1_len (lc := lc) (rc := rc) (a := a) (b := z) (da := da) (db := dz) hlt HYL.out j s HN.out)
      generalize hys : metL rc z dz (keyOf lc xr) = ys at *
      generalize keyOf lc xr = ks at *
      generalize zw a xr = old at *
      generalize (da.take k).flatMap (f1 lc rc a z dz) = pre at *
      generalize (da.take k).any (p1 lc rc a z dz) = pov at *
      have hnw : IntKind.i64.wrap (old + xw) = wrap64 (old + xw) := by (rw [IntKind.wrap_i64]; unfold wrap64; omega)
      have HNI := As.mk (wrap64_i64 (old + xw))
      generalize wrap64 (old + xw) = nw at *
      have HMT2 := As.mk (fun W A c hb hv => (HMT.out W A c hb hv).mono fun e w' h => MetPost.at h hys)
      have r2 := rgc c2
      have rf0 := rgc x0
      (refine wp_region_quiet_below (by assumption) (by kernel_rfl) ?_; (repeat (go_big_quiet_step ( (go_at_call 30; exact Calls.regrown_of (HWT.out _ _)) ))); refine wpQuiet_nil ?_; intro _ hw'; obtain ⟨⟨dq, osq⟩, hw''⟩ := hw'; subst hw'')
      have HB3 := As.mk (below_regrown W0 dq osq)
      generalize Go.Sort.grow (redrawn W0 dq) osq = w2 at *
      clear r2 rf0
      have c0 := bc HB3.out c0
      have c1 := bc HB3.out c1
      have c2 := bc HB3.out c2
      have c3 := bc HB3.out c3
      have c4 := bc HB3.out c4
      have c5 := bc HB3.out c5
      have e1 := bc HB3.out e1
      have x0 := bc HB3.out x0
      have x1 := bc HB3.out x1
      have HBW := As.mk (HBY.out.trans (HB3.out.mono HBY.out.size))
      have HKW := As.mk (fun W (hb : Below w2.heap.size w2 W) => HKY.out W (HB3.out.trans (hb.mono HB3.out.size)))
      clear HKY HWT
      go_wp2_with fail
      go_region_held3 (fun w' => w'.cell? ⟨b, 0, none⟩ = some (.slice B1 n1 m1) ∧ w'.cell? ⟨b, 1, none⟩ = some (.int .i64 nl) ∧ w'.cell? ⟨b, 2, none⟩ = some (.pointer (some ⟨bl, 0, none⟩)) ∧ w'.cell? ⟨b, 3, none⟩ = some (.slice B2 n2 m2) ∧ w'.cell? ⟨b, 4, none⟩ = some (.int .i64 nr) ∧ w'.cell? ⟨b, 5, none⟩ = some (.pointer (some ⟨br, 0, none⟩)) ∧ w'.cell? ⟨b1, o1 + 1, none⟩ = some (.slice D2 dz.length dc2) ∧ w'.cell? ⟨cb, 0, none⟩ = some (.slice A2 xr.length d2)) (first | go_keep | (refine ⟨?_, ?_, ?_, ?_, ?_, ?_, ?_, ?_⟩ <;> exact bc hB4 (by assumption)) | (refine ⟨?_, ?_, ?_, ?_, ?_, ?_, ?_, ?_⟩ <;> exact bc hB5 (bc hB4 (by assumption)))) (first | (go_at_call 32; refine (HKW.out _ (by first | exact Below.refl _ _ | exact (Ext.drew (Ext.refl _)).below)).mono ?_; rintro e w4 ⟨A4, d4, rfl, hk4, hB4'⟩; have hB4 : Below w2.heap.size w2 w4 := (by first | exact hB4' | exact (Ext.drew (Ext.refl w2)).below.trans hB4'); clear hB4') | (go_at_call 31; refine (HMT2.out w4 A4 d4 (HBW.out.trans (hB4.mono HBW.out.size)) hk4).mono ?_; rintro e w5 ⟨A5, d5, rfl, hr5, hB5⟩))
      have HB5 := As.mk (hB4.trans (hB5.mono hB4.size))
      have HR5 := As.mk hr5
      have x0 := bc HB5.out x0
      have x1 := bc HB5.out x1
      have HB05 := As.mk (HE0.out.below.trans ((HB3.out.trans (HB5.out.mono HB3.out.size)).mono HE0.out.size))
      have hcb5 : cb < w5.heap.size := World.block_lt_of_cell? w5 ⟨cb, 0, none⟩ x0
      have HB9 := As.mk (HBR.out.trans (HB05.out.mono HBR.out.size))
      have HP5 : As (PAt (Apart w.heap.size cb w5.heap.size) w.heap.size w1.heap.size w5 pre pov) := ⟨(HP.out.re fun k hk hn => ⟨hn, .inl (hcb ▸ hk)⟩).ext HB05.out⟩
      have HRO5 := As.mk (HROW.out.ext HB05.out)
      obtain ⟨hq1, hq2, csp, hpb⟩ := HP5.out.head
      have HPB := As.mk hpb
      have hpcb : w1.heap.size < cb := hcb ▸ HP.out.head.2.1
      clear HKW HKO HMT HMT2 hk4 hB4 hr5 hB5 c0 c1 c2 c3 c4 c5 c6 e0 e1 hpb
      go_wp2_with fail
      generalize wr = wo at *
      go_loopg [11, 92] ys.length (fun g _ s92 wr => ∃ j : Nat, j ≤ ys.length ∧ ys.length - j ≤ g ∧ s92 = .int .i64 j ∧ As (PAt (Apart w.heap.size cb w5.heap.size) w.heap.size w1.heap.size wr (pre ++ (ys.take j).flatMap (out1 ⟨xr, old, nw⟩)) (pov || (ys.take j).any (over1 ⟨xr, old, nw⟩))) ∧ As (Mup (Apart w.heap.size cb w5.heap.size) w1.heap.size w5 wr))
      case atStart => exact ⟨0, Nat.zero_le _, by omega, rfl, ⟨by simpa using HP5.out⟩, ⟨Mup.refl _ _ _⟩⟩
      case round =>
        obtain ⟨j, hj, hgj, rfl, HPJ, HMJ⟩ := hrel
        have hyb := HYL.out
        by_cases hjl : j < ys.length
        · have hjlz : (j : Int) < (ys.length : Int) := by omega
          obtain ⟨y, hy⟩ : ∃ y, ys[j]? = some y := ⟨_, List.getElem?_eq_getElem hjl⟩
          have hR := RdL.move HR5.out (fun _ _ e => ESp.mv e (HMJ.out.row0 hq1 HPB.out)) (HMJ.out.stays HPB.out fresh_span)
          obtain ⟨b6, o6, c6', A6, d6, hv, hb6, hyi, hyrow, y0, y1, y2⟩ := RdP.span hR hy
          injection hv with hA _ hcc
          subst hA hcc
          have hyl := HYR.out y (List.mem_of_getElem? hy)
          have HFJ : As ((ys.take (j + 1)).flatMap (out1 ⟨xr, old, nw⟩) = (ys.take j).flatMap (out1 ⟨xr, old, nw⟩) ++ out1 ⟨xr, old, nw⟩ y) := ⟨flat_take ys (out1 ⟨xr, old, nw⟩) hy⟩
          have HAJ : As ((ys.take (j + 1)).any (over1 ⟨xr, old, nw⟩) = ((ys.take j).any (over1 ⟨xr, old, nw⟩) || over1 ⟨xr, old, nw⟩ y)) := ⟨any_take ys (over1 ⟨xr, old, nw⟩) hy⟩
          have x0 := HMJ.out.cell x0 (by omega) (fun h => by have := h.2; omega)
          have x1 := HMJ.out.cell x1 (by omega) (fun h => by have := h.2; omega)
          have HAY : As (Ext wr (wr.alloc (.cells #[.slice A6 y.row.length d6, .int .i64 y.before, .int .i64 y.now] 83))) := ⟨Ext.alloc (Ext.refl _) _⟩
          have x0 := HAY.out.cell x0
          have x1 := HAY.out.cell x1
          obtain ⟨z0, z1, z2⟩ := span_cells wr (.slice A6 y.row.length d6) (.int .i64 y.before) (.int .i64 y.now) 83
          have HPW := As.mk (HPJ.out.ext HAY.out.below)
          have hMw := HMJ.out.ext HAY.out.below
          have HMW := As.mk hMw
          have hbw : ∀ k, (wr.alloc (.cells #[.slice A6 y.row.length d6, .int .i64 y.before, .int .i64 y.now] 83)).heap.size ≤ k → Apart w.heap.size cb w5.heap.size k := fun k hk => ⟨by have := hMw.size; omega, .inr (Nat.le_trans hMw.size hk)⟩
          have hML := HML.out j ⟨xr, old, nw⟩
          have HAD := As.mk (jAdd_any (Apart w.heap.size cb w5.heap.size) w.heap.size w1.heap.size (pre ++ (ys.take j).flatMap (out1 ⟨xr, old, nw⟩)) (pov || (ys.take j).any (over1 ⟨xr, old, nw⟩)) ⟨xr, old, nw⟩ y A2 A6 d2 d6 (wr.alloc (.cells #[.slice A6 y.row.length d6, .int .i64 y.before, .int .i64 y.now] 83)) hbw HPW.out (by omega) (by show xr.length + y.row.length ≤ 4294967296; omega) (((HRO5.out.mv (HMJ.out.row0 hq1 HPB.out)).ext HAY.out.below).mv (Stays.mono fun _ _ h => h.2)) ((hyrow.ext HAY.out.below).mv (Stays.mono fun _ _ h => h.2)) ⟨HIO.out, HNI.out, hyi.1, hyi.2⟩)
          clear hR hyrow hMw hbw hML hyl hyi
          obtain ⟨yr, yb, yn⟩ := y
          simp only at *
          generalize hW7 : wr.alloc (.cells #[.slice A6 yr.length d6, .int .i64 yb, .int .i64 yn] 83) = W7 at *
          go_wp2_with (go_at_call 33; refine HAD.out.mono ?_; rintro e w8 ⟨rfl, hP8, hM8⟩; have HP8 := As.mk hP8; have HM8 := As.mk (HMW.out.trans hM8); clear hP8 hM8)
          go_roundg (ys.length - (j + 1))
          case measure => omega
          case rel => exact ⟨j + 1, by omega, by omega, by go_num, ⟨by rw [HFJ.out, HAJ.out, ← List.append_assoc, ← Bool.or_assoc]; exact HP8.out⟩, HM8⟩
        · obtain rfl : j = ys.length := by omega
          have HBM := As.mk (HMJ.out.below (B := w.heap.size) (fun k hk => hk.1) hq1 HB9.out.size)
          have HPE := As.mk (HPJ.out.re (P' := fun k => w.heap.size ≤ k) fun k _ hk => hk.1)
          rw [List.take_length] at HPE
          go_wp2
          go_roundg (da.length - (k + 1))
          case measure => omega
          case rel => exact ⟨k + 1, by omega, by omega, by go_num, ⟨by rw [HF1.out, HP1'.out]; exact HPE.out⟩, ⟨HB9.out.trans HBM.out⟩⟩
    · obtain rfl : k = da.length := by omega
      rw [List.take_length, ← outs1_eq, ← over1s_eq] at HP
      clear hlt hg hk
      have hpo := HP.out.head.1
      generalize hob : over1s lc rc a z da dz = ob at *
      generalize hoo : outs1 lc rc a z da dz = oo at *
      have HOO := As.mk hoo
      have HOB := As.mk hob
      clear hoo hob
      obtain ⟨c0, c1, c2, c3, c4, c5, c6, e0, e1⟩ := HC.out.below HBR.out
      go_wp2_with fail
      generalize wr = wa at *
      go_loopg [13, 14, 16, 112, 138] dz.length (fun g _ _ _ s112 _ wr => ∃ k : Nat, k ≤ dz.length ∧ dz.length - k ≤ g ∧ s112 = .int .i64 k ∧ As (PAt (fun k => w.heap.size ≤ k) w.heap.size w1.heap.size wr (oo ++ (dz.take k).flatMap (f2 lc rc a z da)) (ob || (dz.take k).any (p2 lc rc a z da))) ∧ As (Below w.heap.size w wr))
      case atStart => exact ⟨0, Nat.zero_le _, by omega, rfl, ⟨by simpa using HP.out⟩, HBR⟩
      case round =>
        clear HP HBR
        obtain ⟨k, hk, hg, rfl, HP, HBR⟩ := hrel
        clear c0 c1 c2 c3 c4 c5 c6 e0 e1
        by_cases hlt : k < dz.length
        · have hltz : (k : Int) < (dz.length : Int) := by omega
          obtain ⟨x, hx⟩ : ∃ x, dz[k]? = some x := ⟨_, List.getElem?_eq_getElem hlt⟩
          obtain ⟨b2, o2, c2', A2, d2, hv, hb2, hxw, hrow, q0, q1⟩ := RdZ.ent (HDZ.out.ext HBR.out) hx
          injection hv with hA _ hcc
          subst hA hcc
          obtain ⟨x0, x1⟩ := row2 wr (.slice A2 x.row.length d2) (.int .i64 x.w) 66
          have HE0 : As (Ext wr (wr.alloc (.cells #[.slice A2 x.row.length d2, .int .i64 x.w] 66))) := ⟨Ext.alloc (Ext.refl _) _⟩
          obtain ⟨c0, c1, c2, c3, c4, c5, c6, e0, e1⟩ := (HC.out.below HBR.out).below HE0.out.below
          have HX := As.mk hx
          have HROW := As.mk hrow
          have HBY := As.mk (HBR.out.trans (HE0.out.below.mono HBR.out.size))
          clear hx hrow hxw
          obtain ⟨xr, xw⟩ := x
          simp only at *
          go_wp2_with fail
          generalize hcb : wr.heap.size = cb at *
          generalize hW0 : wr.alloc (Obj.cells #[Value.slice A2 xr.length d2, Value.int IntKind.i64 xw] 66) = W0 at *
          have HWT := As.mk (fun d os => HJ.out.wtR (Go.Sort.grow (redrawn W0 d) os) xr A2 d2 (HBY.out.trans ((below_regrown W0 d os).mono HBY.out.size)) (((HROW.out.mv (Stays.any _ _)).ext HE0.out.below).ext (below_regrown W0 d os)))
          have HRX : RowOk xr := HRZ.out _ (List.mem_of_getElem? HX.out)
          have HF1 : As ((dz.take (k + 1)).flatMap (f2 lc rc a z da) = (dz.take k).flatMap (f2 lc rc a z da) ++ (a.filter fun x => keyIs lc (keyOf rc xr) x.row).flatMap (g2 da ⟨xr, zw z xr, wrap64 (zw z xr + xw)⟩)) := ⟨by rw [flat_take dz (f2 lc rc a z da) HX.out]; rfl⟩
          have HP1' : As ((dz.take (k + 1)).any (p2 lc rc a z da) = ((dz.take k).any (p2 lc rc a z da) || (a.filter fun x => keyIs lc (keyOf rc xr) x.row).any (q2 da ⟨xr, zw z xr, wrap64 (zw z xr + xw)⟩))) := ⟨by rw [any_take dz (p2 lc rc a z da) HX.out]; rfl⟩
          have HKY := As.mk (fun W hb => HJ.out.keyR W xr A2 d2 (HBY.out.trans (hb.mono HBY.out.size)) (((HROW.out.mv (Stays.any _ _)).ext HE0.out.below).ext hb))
          have HKO : As (RowOk (keyOf rc xr)) := ⟨keyOf_ok HRX⟩
          have HMT := As.mk (fun W A c hb hv => HJ.out.get W (keyOf rc xr) A c hb HKO.out hv)
          have HYL : As ((a.filter fun x => keyIs lc (keyOf rc xr) x.row).length ≤ a.length) := ⟨List.length_filter_le _ _⟩
          have HYR : As (∀ y ∈ (a.filter fun x => keyIs lc (keyOf rc xr) x.row), y.row.length ≤ 1024) := ⟨fun y hy => rowOk_len (BL.out.told.ok.row y (List.mem_filter.1 hy).1)⟩
          have hxl := rowOk_len HRX
          have HIO := As.mk (BR.out.i64 xr)
          have HML := As.mk (fun j (s : GSp) => pre2_len (lc := lc) (rc := rc) (a := a) (b := z) (da := da) (db := dz) hlt HYL.out j s HN.out)
          rw [HOO.out] at HML
          generalize hys : (a.filter fun x => keyIs lc (keyOf rc xr) x.row) = ys at *
          generalize keyOf rc xr = ks at *
          generalize zw z xr = old at *
          have HF1 : As (oo ++ (dz.take (k + 1)).flatMap (f2 lc rc a z da) = (oo ++ (dz.take k).flatMap (f2 lc rc a z da)) ++ ys.flatMap (g2 da ⟨xr, old, wrap64 (old + xw)⟩)) := ⟨by rw [HF1.out, List.append_assoc]⟩
          have HP1' : As ((ob || (dz.take (k + 1)).any (p2 lc rc a z da)) = ((ob || (dz.take k).any (p2 lc rc a z da)) || ys.any (q2 da ⟨xr, old, wrap64 (old + xw)⟩))) := ⟨by rw [HP1'.out, Bool.or_assoc]⟩
          generalize oo ++ (dz.take k).flatMap (f2 lc rc a z da) = pre at *
          generalize (ob || (dz.take k).any (p2 lc rc a z da)) = pov at *
          have hnw : IntKind.i64.wrap (old + xw) = wrap64 (old + xw) := by (rw [IntKind.wrap_i64]; unfold wrap64; omega)
          have HNI := As.mk (wrap64_i64 (old + xw))
          generalize wrap64 (old + xw) = nw at *
          have HMT2 := As.mk (fun W A c hb hv => (HMT.out W A c hb hv).mono fun e w' h => BagPost.at h hys)
          have r5 := rgc c5
          have rf0 := rgc x0
          (refine wp_region_quiet_below (by assumption) (by kernel_rfl) ?_; (repeat (go_big_quiet_step ( (go_at_call 30; exact Calls.regrown_of (HWT.out _ _)) ))); refine wpQuiet_nil ?_; intro _ hw'; obtain ⟨⟨dq, osq⟩, hw''⟩ := hw'; subst hw'')
          have HB3 := As.mk (below_regrown W0 dq osq)
          generalize Go.Sort.grow (redrawn W0 dq) osq = w2 at *
          clear r5 rf0
          have c2 := bc HB3.out c2
          have c3 := bc HB3.out c3
          have c4 := bc HB3.out c4
          have c5 := bc HB3.out c5
          have e0 := bc HB3.out e0
          have x0 := bc HB3.out x0
          have x1 := bc HB3.out x1
          have HBW := As.mk (HBY.out.trans (HB3.out.mono HBY.out.size))
          have HKW := As.mk (fun W (hb : Below w2.heap.size w2 W) => HKY.out W (HB3.out.trans (hb.mono HB3.out.size)))
          clear HKY HWT
          go_wp2_with fail
          go_region_held3 (fun w' => w'.cell? ⟨b, 2, none⟩ = some (.pointer (some ⟨bl, 0, none⟩)) ∧ w'.cell? ⟨b, 3, none⟩ = some (.slice B2 n2 m2) ∧ w'.cell? ⟨b, 4, none⟩ = some (.int .i64 nr) ∧ w'.cell? ⟨b, 5, none⟩ = some (.pointer (some ⟨br, 0, none⟩)) ∧ w'.cell? ⟨cb, 0, none⟩ = some (.slice A2 xr.length d2)) (first | go_keep | (refine ⟨?_, ?_, ?_, ?_, ?_⟩ <;> exact bc hB4 (by assumption)) | (refine ⟨?_, ?_, ?_, ?_, ?_⟩ <;> exact bc hB5 (bc hB4 (by assumption)))) (first | (go_at_call 32; refine (HKW.out _ (by first | exact Below.refl _ _ | exact (Ext.drew (Ext.refl _)).below)).mono ?_; rintro e w4 ⟨A4, d4, rfl, hk4, hB4'⟩; have hB4 : Below w2.heap.size w2 w4 := (by first | exact hB4' | exact (Ext.drew (Ext.refl w2)).below.trans hB4'); clear hB4') | (go_at_call 34; refine (HMT2.out w4 A4 d4 (HBW.out.trans (hB4.mono HBW.out.size)) hk4).mono ?_; rintro e w5 ⟨A5, d5, rfl, hr5, hB5⟩))
          have HB5 := As.mk (hB4.trans (hB5.mono hB4.size))
          have x0 := bc HB5.out x0
          have x1 := bc HB5.out x1
          have e0 := bc HB5.out e0
          have HB05 := As.mk (HE0.out.below.trans ((HB3.out.trans (HB5.out.mono HB3.out.size)).mono HE0.out.size))
          have hcb5 : cb < w5.heap.size := World.block_lt_of_cell? w5 ⟨cb, 0, none⟩ x0
          have hcb4 : cb ≤ w4.heap.size := Nat.le_trans (Nat.le_of_lt (World.block_lt_of_cell? w2 ⟨cb, 0, none⟩ (by assumption))) hB4.size
          have HR5 : As (RdL 2 (EE w5 (Row0 w.heap.size)) w5 (Mid cb w5.heap.size) (.slice A5 ys.length d5) ys) := ⟨RdL.move hr5 (fun _ _ e => EE.mv e (Stays.mono fun k t h => .inr (List.mem_singleton.1 h.2))) (Stays.widen fun k t hk h => ⟨Nat.le_trans hcb4 h.1, hk⟩)⟩
          have HB9 := As.mk (HBR.out.trans (HB05.out.mono HBR.out.size))
          have HP5 : As (PAt (Apart w.heap.size cb w5.heap.size) w.heap.size w1.heap.size w5 pre pov) := ⟨(HP.out.re fun k hk hn => ⟨hn, .inl (hcb ▸ hk)⟩).ext HB05.out⟩
          have HRO5 := As.mk (HROW.out.ext HB05.out)
          obtain ⟨hq1, hq2, csp, hpb⟩ := HP5.out.head
          have HPB := As.mk hpb
          have hpcb : w1.heap.size < cb := hcb ▸ HP.out.head.2.1
          clear HKW HKO HMT HMT2 hk4 hB4 hr5 hB5 c0 c1 c2 c3 c4 c5 c6 e1 hpb
          go_wp2_with fail
          generalize wr = wo at *
          go_loopg [16, 138] ys.length (fun g _ s138 wr => ∃ j : Nat, j ≤ ys.length ∧ ys.length - j ≤ g ∧ s138 = .int .i64 j ∧ As (PAt (Apart w.heap.size cb w5.heap.size) w.heap.size w1.heap.size wr (pre ++ (ys.take j).flatMap (g2 da ⟨xr, old, nw⟩)) (pov || (ys.take j).any (q2 da ⟨xr, old, nw⟩))) ∧ As (Mup (Apart w.heap.size cb w5.heap.size) w1.heap.size w5 wr))
          case atStart => exact ⟨0, Nat.zero_le _, by omega, rfl, ⟨by simpa using HP5.out⟩, ⟨Mup.refl _ _ _⟩⟩
          case round =>
            obtain ⟨j, hj, hgj, rfl, HPJ, HMJ⟩ := hrel
            have hyb := HYL.out
            by_cases hjl : j < ys.length
            · have hjlz : (j : Int) < (ys.length : Int) := by omega
              obtain ⟨y, hy⟩ : ∃ y, ys[j]? = some y := ⟨_, List.getElem?_eq_getElem hjl⟩
              have hR := RdL.move HR5.out (fun _ _ e => EE.mv e (HMJ.out.row0 hq1 HPB.out)) (HMJ.out.mid hpcb)
              obtain ⟨b6, o6, c6', A6, d6, hv, hb6, hyi, hyrow, y0, y1⟩ := RdE.ent hR hy
              injection hv with hA _ hcc
              subst hA hcc
              have hyl := HYR.out y (List.mem_of_getElem? hy)
              have HFJ : As ((ys.take (j + 1)).flatMap (g2 da ⟨xr, old, nw⟩) = (ys.take j).flatMap (g2 da ⟨xr, old, nw⟩) ++ g2 da ⟨xr, old, nw⟩ y) := ⟨flat_take ys (g2 da ⟨xr, old, nw⟩) hy⟩
              have HAJ : As ((ys.take (j + 1)).any (q2 da ⟨xr, old, nw⟩) = ((ys.take j).any (q2 da ⟨xr, old, nw⟩) || q2 da ⟨xr, old, nw⟩ y)) := ⟨any_take ys (q2 da ⟨xr, old, nw⟩) hy⟩
              have hb1 := World.block_lt_of_cell? w ⟨b1, o1, none⟩ HC.out.e0
              simp only at hb1
              have x0 := HMJ.out.cell x0 (by omega) (fun h => by have := h.2; omega)
              have x1 := HMJ.out.cell x1 (by omega) (fun h => by have := h.2; omega)
              have e0 := HMJ.out.cell e0 (by omega) (fun h => by have := h.1; omega)
              have HAY : As (Ext wr (wr.alloc (.cells #[.slice A6 y.row.length d6, .int .i64 y.w] 66))) := ⟨Ext.alloc (Ext.refl _) _⟩
              have x0 := HAY.out.cell x0
              have x1 := HAY.out.cell x1
              have e0 := HAY.out.cell e0
              obtain ⟨z0, z1⟩ := row2 wr (.slice A6 y.row.length d6) (.int .i64 y.w) 66
              have HBY9 := As.mk (HB9.out.trans ((HMJ.out.below (B := w.heap.size) (fun k hk => hk.1) hq1 HB9.out.size).trans (HAY.out.below.mono (Nat.le_trans HB9.out.size HMJ.out.size))))
              have HPW := As.mk (HPJ.out.ext HAY.out.below)
              have HMW := As.mk (HMJ.out.ext HAY.out.below)
              have HYRW := As.mk (hyrow.ext HAY.out.below)
              have HXRW := As.mk ((HRO5.out.mv (HMJ.out.row0 hq1 HPB.out)).ext HAY.out.below)
              have hML := HML.out j ⟨xr, old, nw⟩
              have HYI := As.mk hyi
              clear hR hyrow hyi
              obtain ⟨yr, yw⟩ := y
              simp only at *
              go_wp2_with fail
              generalize hsz : wr.heap.size = cy at *
              generalize hW7 : wr.alloc (.cells #[.slice A6 yr.length d6, .int .i64 yw] 66) = W7 at *
              have HZW := As.mk (fun d os => (HJ.out.zwt (Go.Sort.grow (redrawn W7 d) os) yr A6 d6 (HBY9.out.trans ((below_regrown W7 d os).mono HBY9.out.size)) ((HYRW.out.mv (Stays.any _ _)).ext (below_regrown W7 d os))).mono fun e w' h => (⟨h.1, h.2.below⟩ : e = Ending.returned (.int .i64 (zw da yr)) ∧ Below (Go.Sort.grow (redrawn W7 d) os).heap.size (Go.Sort.grow (redrawn W7 d) os) w'))
              have HG := As.mk (fun (h : zw da yr = 0) => g2_yes (s := ⟨xr, old, nw⟩) (x := ⟨yr, yw⟩) h)
              have HGN := As.mk (fun (h : ¬ zw da yr = 0) => g2_no (s := ⟨xr, old, nw⟩) (x := ⟨yr, yw⟩) h)
              generalize zw da yr = zy at *
              have re0 := rgc e0
              have rz0 := rgc z0
              have e0z : IntKind.i64.wrap 0 = 0 := by decide
              (refine wp_region_quiet_below (by assumption) (by kernel_rfl) ?_; (repeat (go_big_quiet_step ( (go_at_call 35; exact Calls.regrown_of (HZW.out _ _)) ))); refine wpQuiet_nil ?_; intro _ hw'; obtain ⟨⟨dq, osq⟩, hw''⟩ := hw'; subst hw'')
              have HB8 := As.mk (below_regrown W7 dq osq)
              generalize Go.Sort.grow (redrawn W7 dq) osq = W8 at *
              clear re0 rz0 HZW
              have x0 := bc HB8.out x0
              have x1 := bc HB8.out x1
              have z0 := bc HB8.out z0
              have z1 := bc HB8.out z1
              have HP8 := As.mk (HPW.out.ext HB8.out)
              have HM8 := As.mk (HMW.out.ext HB8.out)
              by_cases hz0 : zy = 0
              · subst hz0
                obtain ⟨hg1, hg2⟩ := HG.out rfl
                have hbw : ∀ k, W8.heap.size ≤ k → Apart w.heap.size cb w5.heap.size k := fun k hk => ⟨by have := HM8.out.size; omega, .inr (Nat.le_trans HM8.out.size hk)⟩
                have HAD := As.mk (jAdd_any (Apart w.heap.size cb w5.heap.size) w.heap.size w1.heap.size (pre ++ (ys.take j).flatMap (g2 da ⟨xr, old, nw⟩)) (pov || (ys.take j).any (q2 da ⟨xr, old, nw⟩)) ⟨yr, yw, yw⟩ ⟨xr, old, nw⟩ A6 A2 d6 d2 W8 hbw HP8.out (by omega) (by show yr.length + xr.length ≤ 4294967296; omega) ((HYRW.out.ext HB8.out).mv (Stays.mono fun _ _ h => h.2)) ((HXRW.out.ext HB8.out).mv (Stays.mono fun _ _ h => h.2)) ⟨HYI.out, HYI.out, HIO.out, HNI.out⟩)
                simp only at HAD
                go_wp2_with (go_at_call 33; refine HAD.out.mono ?_; rintro e w9 ⟨rfl, hP9, hM9⟩; have HP9 := As.mk hP9; have HM9 := As.mk (HM8.out.trans hM9); clear hP9 hM9)
                go_roundg (ys.length - (j + 1))
                case measure => omega
                case rel => exact ⟨j + 1, by omega, by omega, by go_num, ⟨by rw [HFJ.out, HAJ.out, hg1, hg2, ← List.append_assoc, ← Bool.or_assoc]; exact HP9.out⟩, HM9⟩
              · have hz1 : (zy == 0) = false := by simpa using hz0
                obtain ⟨hg1, hg2⟩ := HGN.out hz0
                go_wp2
                go_roundg (ys.length - (j + 1))
                case measure => omega
                case rel => exact ⟨j + 1, by omega, by omega, by go_num, ⟨by rw [HFJ.out, HAJ.out, hg1, hg2, List.append_nil, Bool.or_false]; exact HP8.out⟩, HM8⟩
            · obtain rfl : j = ys.length := by omega
              have HBM := As.mk (HMJ.out.below (B := w.heap.size) (fun k hk => hk.1) hq1 HB9.out.size)
              have HPE := As.mk (HPJ.out.re (P' := fun k => w.heap.size ≤ k) fun k _ hk => hk.1)
              rw [List.take_length] at HPE
              go_wp2
              go_roundg (dz.length - (k + 1))
              case measure => omega
              case rel => exact ⟨k + 1, by omega, by omega, by go_num, ⟨by rw [HF1.out, HP1'.out]; exact HPE.out⟩, ⟨HB9.out.trans HBM.out⟩⟩
        · obtain rfl : k = dz.length := by omega
          rw [List.take_length, ← outs2_eq, ← over2s_eq, ← HOO.out, ← HOB.out] at HP
          clear hlt hg hk
          have HP : As (PAt (fun k => w.heap.size ≤ k) w.heap.size w1.heap.size wr (outsJ lc rc a z da dz) (over1s lc rc a z da dz || over2s lc rc a z da dz)) := HP
          generalize hov : (over1s lc rc a z da dz || over2s lc rc a z da dz) = ov at HP
          have HOV := As.mk hov
          clear hov
          have hIr := HI.out.ext HBR.out
          obtain ⟨c2, c5, c6, _⟩ := hIr.cells
          obtain ⟨e0, e1⟩ := HEE.out wr (JMut.of R HBR.out)
          have HPL := As.mk (fun W (hb : Below wr.heap.size wr W) => (hIr.ext hb).putL (HW.out.below (HBR.out.trans (hb.mono HBR.out.size))) BL.out (((HDA.out.mv (Stays.any _ _)).ext HBR.out).ext hb) na)
          clear hIr
          go_wp2_with fail
          go_region_held3 (fun w' => w'.cell? ⟨b, 2, none⟩ = some (.pointer (some ⟨bl, 0, none⟩)) ∧ w'.cell? ⟨b, 5, none⟩ = some (.pointer (some ⟨br, 0, none⟩)) ∧ w'.cell? ⟨b1, o1, none⟩ = some (.slice D1 da.length dc1) ∧ w'.cell? ⟨b1, o1 + 1, none⟩ = some (.slice D2 dz.length dc2)) (first | go_keep | exact ⟨k2, k5, kk.1, kk.2⟩ | exact ⟨m2, m5, mm.1, mm.2⟩) (first | (go_at_call 36; (with_reducible refine (HPL.out _ (by first | exact Below.refl _ _ | exact (Ext.drew (Ext.refl _)).below)).mono ?_); rintro e w4 ⟨rfl, SL4, a4, hI4, hM4, hb4, h41, h42⟩; obtain ⟨k2, k5, k6, _⟩ := hI4.cells; have HM4 : As (JMut R w w4) := ⟨(by first | exact (JMut.of R HBR.out).trans hM4 (fun _ _ h => h) | exact ((JMut.of R HBR.out).below (Ext.drew (Ext.refl _)).below).trans hM4 (fun _ _ h => h))⟩; have kk := HEE.out w4 HM4.out; have HP4 : As (PAt (fun k => w.heap.size ≤ k) w.heap.size w1.heap.size w4 (outsJ lc rc a z da dz) ov) := ⟨(by first | exact HP.out.jmut hM4 | exact (HP.out.ext (Ext.drew (Ext.refl _)).below).jmut hM4)⟩; have HI4 := As.mk hI4; have HB4 := As.mk hb4; have H42 := As.mk h42; clear hI4 hM4 hb4 h41 h42) | (go_at_call 36; (with_reducible refine (HI4.out.putR (HW.out.jmut HM4.out HG0.out) BR.out ((HDS.out.mv HM4.out.safe).mv (Stays.any _ _)) nz).mono ?_); rintro e w6 ⟨rfl, SR6, z6, hI6, hM6, hb6, h61, h62⟩; obtain ⟨m2, m5, m6, _⟩ := hI6.cells; have HM6 := As.mk (HM4.out.since hM6 HBR.out.size); have mm := HEE.out w6 HM6.out))
          have HP6 := As.mk (HP4.out.jmut hM6)
          have HS6 : As (∀ k, Since (Since R wr.heap.size w4.heap.size) w4.heap.size w6.heap.size k → Since R w.heap.size w6.heap.size k) := ⟨fun k hk => by
            rcases hk with hk | hk
            · rcases hk with hk | hk
              · exact .inl hk
              · exact .inr ⟨Nat.le_trans HBR.out.size hk.1, Nat.lt_of_lt_of_le hk.2 hM6.size⟩
            · exact .inr ⟨by have := HM4.out.size; omega, hk.2⟩⟩
          have HI6 := As.mk hI6
          have HB6 := As.mk hb6
          have H62 := As.mk h62
          clear hI6 hM6 hb6 h61 h62 k2 k5 k6 kk HP4 HI4 HP HPL
          generalize hpa : putE lc a da = pa
          generalize hpb : putE rc z dz = pb
          have HPA := As.mk hpa
          have HPB' := As.mk hpb
          clear hpa hpb
          have HBJ : As (badJ lc rc a z da dz = (ov || decide (pa ≠ 0) || decide (pb ≠ 0) || (outsJ lc rc a z da dz).any badE || overL (outsJ lc rc a z da dz))) := ⟨by unfold badJ; rw [HOV.out, HPA.out, HPB'.out]⟩
          obtain ⟨v6, hh6, how6, _, _⟩ := HP6.out
          have hrd : RdZ w6 AnyB v6 (outsJ lc rc a z da dz) := RdL.move (how6.rd (ok := AnyB) fun _ _ => trivial) (fun _ _ e => EE.mv e (Stays.any _ _)) (Stays.any _ _)
          obtain ⟨A6, c6', rfl, _⟩ := hrd.shape
          obtain ⟨p0, p1, _⟩ := cells2 hh6
          have HMK := As.mk (make_any _ (outsJ lc rc a z da dz) w6 hrd)
          clear hrd how6 hh6 HP6 m2 m5 m6 mm
          generalize hoj : outsJ lc rc a z da dz = oj at *
          have HOJ := As.mk hoj
          clear hoj
          cases ov with
          | true =>
            go_wp2_with (go_at_call 28; refine HMK.out.mono ?_; rintro e w7 hm; obtain ⟨A7, n7, c7, k7, rfl, hB7, _⟩ := hm.cases; have p1 := bc hB7 p1; obtain ⟨m2, m5, m6, mf⟩ := (HI6.out.ext hB7).cells; have HL := As.mk (JRet.of HI.out HI6.out HM6.out HS6.out HB4.out HB6.out H42.out H62.out hB7); clear hm hB7)
            go_quiet (fail)
            go_wp2
            go_ret2
            exact StepPost.bad (by rw [HBJ.out]; simp []) (HL.out.2 14 _ (Ext.drewN (Ext.refl _) _))
          | false =>
            by_cases hpa0 : pa = 0
            · subst hpa0
              by_cases hpb0 : pb = 0
              · subst hpb0
                by_cases hmb : (oj.any badE || overL oj) = true
                · have HMB := As.mk hmb
                  go_wp2_with (go_at_call 28; refine HMK.out.mono ?_; rintro e w7 hm; obtain ⟨A7, n7, c7, k7, rfl, hB7, hc⟩ := hm.cases; have p1 := bc hB7 p1; obtain ⟨m2, m5, m6, mf⟩ := (HI6.out.ext hB7).cells; have HL := As.mk (JRet.of HI.out HI6.out HM6.out HS6.out HB4.out HB6.out H42.out H62.out hB7); have hk7 : (k7 != 0) = true := (by rcases hc with hc | hc; exact (by simpa using hc.1); exact absurd HMB.out (by rw [hc.2.1]; decide)); clear hc; clear hm hB7)
                  go_quiet (fail)
                  go_wp2
                  go_ret2
                  exact StepPost.bad (by rw [HBJ.out]; have h := HMB.out; rw [Bool.or_eq_true] at h; rcases h with h | h <;> simp [h]) (HL.out.2 14 _ (Ext.drewN (Ext.refl _) _))
                · have HMB := As.mk hmb
                  go_wp2_with (go_at_call 28; refine HMK.out.mono ?_; rintro e w7 hm; obtain ⟨A7, n7, c7, k7, rfl, hB7, hc⟩ := hm.cases; have p1 := bc hB7 p1; obtain ⟨m2, m5, m6, mf⟩ := (HI6.out.ext hB7).cells; have HL := As.mk (JRet.of HI.out HI6.out HM6.out HS6.out HB4.out HB6.out H42.out H62.out hB7); have hc2 := (hc.resolve_left (fun e => HMB.out e.2)); obtain ⟨rfl, hok, d, hmd, hrd⟩ := hc2; have HOK := As.mk hok; have HMD := As.mk hmd; have HRD := As.mk hrd; clear hm hB7 hc hok hmd hrd)
                  go_ret2
                  exact StepPost.good (by rw [HBJ.out]; have h := HOK.out; rw [Bool.or_eq_false_iff] at h; simp [h.1, h.2]) (by rw [HOJ.out]; exact HMD.out) HRD.out HL.out.1
              · have hpb1 : (pb != 0) = true := by simpa using hpb0
                go_wp2_with (go_at_call 28; refine HMK.out.mono ?_; rintro e w7 hm; obtain ⟨A7, n7, c7, k7, rfl, hB7, _⟩ := hm.cases; have p1 := bc hB7 p1; obtain ⟨m2, m5, m6, mf⟩ := (HI6.out.ext hB7).cells; have HL := As.mk (JRet.of HI.out HI6.out HM6.out HS6.out HB4.out HB6.out H42.out H62.out hB7); clear hm hB7)
                go_quiet (fail)
                go_wp2
                go_ret2
                exact StepPost.bad (by rw [HBJ.out]; simp [hpb0]) (HL.out.2 14 _ (Ext.drewN (Ext.refl _) _))
            · have hpa1 : (pa != 0) = true := by simpa using hpa0
              go_wp2_with (go_at_call 28; refine HMK.out.mono ?_; rintro e w7 hm; obtain ⟨A7, n7, c7, k7, rfl, hB7, _⟩ := hm.cases; have p1 := bc hB7 p1; obtain ⟨m2, m5, m6, mf⟩ := (HI6.out.ext hB7).cells; have HL := As.mk (JRet.of HI.out HI6.out HM6.out HS6.out HB4.out HB6.out H42.out H62.out hB7); clear hm hB7)
              go_quiet (fail)
              go_wp2
              go_ret2
              exact StepPost.bad (by rw [HBJ.out]; simp [hpa0]) (HL.out.2 14 _ (Ext.drewN (Ext.refl _) _))
end Go.Proofs.YtflckpfpgpfjlaaGreatDoor
