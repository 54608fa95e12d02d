/- The walk of a join's Held. The walk of the law's awake. -/
import Derived.Test.YtflckpfpgpfjlaaGreatDoorMJp
import Derived.BigQuiet
import Derived.Test.YtflckpfpgpfjlaaGreatDoorMKq
import Derived.Test.YtflckpfpgpfjlaaGreatDoorMKl
set_option linter.unusedVariables false
set_option linter.unusedSimpArgs false
section
namespace Go.Proofs.YtflckpfpgpfjlaaGreatDoor
open Go.RowKit Go.Sort
set_option maxRecDepth 100000 in
theorem jHeld_any (b bl br : Nat) (lc rc : List Int) (wl wr broken : Int) (SL SR : GS) (w : World) (h : JAt b bl br w lc rc wl wr broken SL SR) (hl : heldL SL.bs ≤ 4294967296) (hr : heldL SR.bs ≤ 4294967296) :
    Calls Tryz.prog 24 #[.pointer (some ⟨b, 0, none⟩)] w fun e w' => e = .returned (.int .i64 ((heldL SL.bs : Int) + heldL SR.bs)) ∧ Ext w w' := by
  have mixed := mixed
  obtain ⟨PL, PR, lv, rv, h1, _, _, h4, h5, _, _, _, _⟩ := h
  have h6 := fun (n : Nat) (os : Array Obj) => (spHeld_any PL bl SL (Go.Sort.grow (w.drewN n) os) (h4.ext (Ext.grow (Ext.refl w) n os).below) hl).mono (fun e w' ⟨he, hw⟩ => (⟨he, hw ▸ Ext.refl _⟩ : e = Ending.returned (.int .i64 (heldL SL.bs)) ∧ Ext (Go.Sort.grow (w.drewN n) os) w'))
  have h7 := fun (n : Nat) (os : Array Obj) => (spHeld_any PR br SR (Go.Sort.grow (w.drewN n) os) (h5.ext (Ext.grow (Ext.refl w) n os).below) hr).mono (fun e w' ⟨he, hw⟩ => (⟨he, hw ▸ Ext.refl _⟩ : e = Ending.returned (.int .i64 (heldL SR.bs)) ∧ Ext (Go.Sort.grow (w.drewN n) os) w'))
  have c2 : w.cell? ⟨b, 2, none⟩ = some (.pointer (some ⟨bl, 0, none⟩)) := by rw [Lib.cell_of_heap h1]; rfl
  have c5 : w.cell? ⟨b, 5, none⟩ = some (.pointer (some ⟨br, 0, none⟩)) := by rw [Lib.cell_of_heap h1]; rfl
  have hw : IntKind.i64.wrap ((heldL SL.bs : Int) + heldL SR.bs) = (heldL SL.bs : Int) + heldL SR.bs := by rw [IntKind.wrap_i64]; omega
  replace c2 := gc c2
  replace c5 := gc c5
  clear h1 h4 h5
  generalize heldL SL.bs = x at *
  generalize heldL SR.bs = y at *
  go_enter Tryz.func24, Tryz.ntmps24
  go_wp2_with fail
  (refine wp_region_quiet_grown (by assumption) (by kernel_rfl) ?_; (repeat (go_big_quiet_step ( (go_at_call 50; first | (with_reducible exact grown_ext (h6 _ _)) | (with_reducible exact grown_ext (h7 _ _))) ))); refine wpQuiet_nil ?_; intro _ hw'; obtain ⟨⟨nq, osq⟩, hw''⟩ := hw'; subst hw'')
  go_wp2
  go_ret
  exact ⟨rfl, (by with_reducible (repeat first | exact Ext.refl _ | assumption | apply Ext.alloc | apply Ext.drewN | apply Ext.drew | apply Ext.grow | refine Ext.trans ?_ (by assumption)))⟩
end Go.Proofs.YtflckpfpgpfjlaaGreatDoor
end
section
namespace Go.Proofs.YtflckpfpgpfjlaaGreatDoor
open Go.RowKit Go.Sort
theorem RdL.lit {α : Type} {sz : Nat} {E : α → List Value → Prop} {w : World} {ok : Blk} (xs : List α) (cs : List Value) (hr : Reps sz E xs cs) (h1 : ∀ u ∈ cs, u.oneCell' = true) (hl : xs.length ≤ 4294967296) (b : Nat) (t : TypeId) (n : Nat) (hn : n = xs.length)
    (hb : w.heap[b]? = some (.cells cs.toArray t (0, 0))) (hok : ok b t) : RdL sz E w ok (.slice (some ⟨b, 0, none⟩) n n) xs := by
  subst hn
  refine ⟨_, xs.length, rfl, Nat.le_refl _, hl, fun _ => ⟨b, 0, _, t, (0, 0), rfl, Okf.soft hok, hb, fun j x hj => ?_⟩⟩
  have hjl := (List.getElem?_eq_some_iff.1 hj).1
  have hb1 : j * sz + sz ≤ cs.length := by rw [hr.1, ← Nat.succ_mul]; exact Nat.mul_le_mul_right _ hjl
  refine ⟨(cs.drop (j * sz)).take sz, by rw [List.length_take, List.length_drop]; omega, hr.2 j x hj, fun u hu => h1 u (List.mem_of_mem_drop (List.mem_of_mem_take hu)), fun i u hu => ?_⟩
  rw [List.getElem?_take] at hu
  split at hu
  · rw [List.getElem?_drop] at hu
    rw [Nat.zero_add]
    simpa using hu
  · cases hu
theorem lit_ints2 (w : World) (a b : Int) (ha : i64 a) (hb : i64 b) : RdI (w.alloc (.cells #[.int .i64 a, .int .i64 b] 3)) AnyB (.slice (some ⟨w.heap.size, 0, none⟩) 2 2) [a, b] :=
  RdL.lit _ _ (((Reps.nil 1 EI).snoc (x := a) ⟨rfl, ha⟩ rfl).snoc (x := b) ⟨rfl, hb⟩ rfl) (by simp [Value.oneCell']) (by simp) _ 3 2 rfl (heap_alloc_new _ _) trivial
theorem lit_ints4 (w : World) (a b c d : Int) (ha : i64 a) (hb : i64 b) (hc : i64 c) (hd : i64 d) : RdI (w.alloc (.cells #[.int .i64 a, .int .i64 b, .int .i64 c, .int .i64 d] 3)) AnyB (.slice (some ⟨w.heap.size, 0, none⟩) 4 4) [a, b, c, d] :=
  RdL.lit _ _ (((((Reps.nil 1 EI).snoc (x := a) ⟨rfl, ha⟩ rfl).snoc (x := b) ⟨rfl, hb⟩ rfl).snoc (x := c) ⟨rfl, hc⟩ rfl).snoc (x := d) ⟨rfl, hd⟩ rfl) (by simp [Value.oneCell']) (by simp) _ 3 4 rfl (heap_alloc_new _ _) trivial
theorem lit_int1 (w : World) (a : Int) (ha : i64 a) : RdI (w.alloc (.cells #[.int .i64 a] 3)) AnyB (.slice (some ⟨w.heap.size, 0, none⟩) 1 1) [a] :=
  RdL.lit _ _ ((Reps.nil 1 EI).snoc (x := a) ⟨rfl, ha⟩ rfl) (by simp [Value.oneCell']) (by simp) _ 3 1 rfl (heap_alloc_new _ _) trivial
theorem lit_z {R : Nat → Prop} {w : World} {n : Nat} {v : Value} {r : List GV} {k : Int} (h : RdV w (Fresh n [96]) v r) (hk : i64 k) : RdZ (w.alloc (.cells #[v, .int .i64 k] 66)) (Safe R) (.slice (some ⟨w.heap.size, 0, none⟩) 1 1) [⟨r, k⟩] := by
  have hb : Below w.heap.size w (w.alloc (.cells #[v, .int .i64 k] 66)) := (Below.refl _ _).alloc (Nat.le_refl _) _
  have h2 := (RdV.mv h (Safe.fresh (R := R) (by decide) (by decide) (by decide) w)).ext hb
  obtain ⟨_, _, rfl, _⟩ := h.shape
  exact RdL.lit _ _ ((Reps.nil 2 _).snoc (x := (⟨r, k⟩ : GE)) ⟨_, rfl, hk, h2⟩ rfl) (by simp [Value.oneCell']) (by simp) _ 66 1 rfl (heap_alloc_new _ _) (.inr ⟨by decide, by decide, by decide⟩)
theorem lit_d {R : Nat → Prop} {w : World} {v1 v2 : Value} {z1 z2 : List GE} (h1 : RdZ w (Safe R) v1 z1) (h2 : RdZ w (Safe R) v2 z2) : RdD (w.alloc (.cells #[v1, v2] 35)) (Safe R) (.slice (some ⟨w.heap.size, 0, none⟩) 2 2) [z1, z2] := by
  have hb : Below w.heap.size w (w.alloc (.cells #[v1, v2] 35)) := (Below.refl _ _).alloc (Nat.le_refl _) _
  have g1 := h1.ext hb
  have g2 := h2.ext hb
  obtain ⟨_, _, rfl, _⟩ := h1.shape
  obtain ⟨_, _, rfl, _⟩ := h2.shape
  exact RdL.lit _ _ (((Reps.nil 1 _).snoc (x := z1) ⟨_, rfl, g1⟩ rfl).snoc (x := z2) ⟨_, rfl, g2⟩ rfl) (by simp [Value.oneCell']) (by simp) _ 35 2 rfl (heap_alloc_new _ _) (.inr ⟨by decide, by decide, by decide⟩)
def AwkSt (n b bl br : Nat) (w : World) (x y : Int) : Prop := ∃ R : Nat → Prop, (∀ k, R k → n ≤ k) ∧ JSt R b bl br w [0] [0] 2 2 0 (L1 (r2 1 5) x) (L1 (r2 1 7) y)
theorem AwkSt.ext {n b bl br : Nat} {w w' : World} {x y : Int} (h : AwkSt n b bl br w x y) (hb : Below w.heap.size w w') : AwkSt n b bl br w' x y := let ⟨R, h1, h2⟩ := h; ⟨R, h1, h2.ext hb⟩
def AwkPost (n b bl br : Nat) (x y : Int) (z : List GE) (w : World) (e : Ending) (w' : World) : Prop := ∃ A c, e = .returned (.tuple #[.slice A z.length c, .int .i64 0]) ∧ RdZ2 w' w.heap.size (.slice A z.length c) z ∧ Below n w w' ∧ AwkSt n b bl br w' x y ∧ (∃ R, JMut R w w')
theorem i1 : i64 1 := by unfold i64; omega
theorem awk_step {n b bl br : Nat} {W : World} {x y : Int} (dx dy k : Int) {z : List GE} (v : Value) (hs : AwkSt n b bl br W x y) (hn : n ≤ W.heap.size) (hg : GW W) (hml : 0 < n) (hv : ∀ R, RdD W (Safe R) v [L1 (r2 1 5) dx, L1 (r2 1 7) dy])
    (hx : 0 ≤ x ∧ x ≤ 100) (hy : 0 ≤ y ∧ y ≤ 100) (hdx : -1000 ≤ dx ∧ dx ≤ 1000) (hdy : -1000 ≤ dy ∧ dy ≤ 1000) (hx2 : 0 ≤ x + dx ∧ x + dx ≤ 100) (hy2 : 0 ≤ y + dy ∧ y + dy ≤ 100) (hk : (x + dx) * (y + dy) - x * y = k) (hz : L1 (r2 1 5 ++ r2 1 7) k = z) (x' y' : Int) (ex : x + dx = x') (ey : y + dy = y') :
    Calls Tryz.prog 13 #[.pointer (some ⟨b, 0, none⟩), v] W (AwkPost n b bl br x' y' z W) := by
  obtain ⟨R, hR, hst⟩ := hs
  have l1 := L1_length (r2 1 5) x
  have l2 := L1_length (r2 1 7) y
  have l3 := L1_length (r2 1 5) dx
  have l4 := L1_length (r2 1 7) dy
  refine (jStep_any R b bl br [0] [0] 2 2 0 _ _ _ v W hg hst (hv R) (fun h => by have := hR _ h; omega) (fun da dz h => ?_)).mono fun e w' h => ?_
  · simp only [List.cons.injEq, and_true] at h
    obtain ⟨rfl, rfl⟩ := h
    exact ⟨Nat.le_trans (Nat.mul_le_mul (show _ ≤ 2 by omega) (show _ ≤ 2 by omega)) (by decide), by omega, by omega⟩
  · subst ex ey
    obtain ⟨A, c, he, hr, hm, hs'⟩ := JSt.step1 (p := r2 1 5) (q := r2 1 7) (r2_ok i1 (by unfold i64; omega)) (r2_ok i1 (by unfold i64; omega)) rfl rfl (by rw [key_two, key_two]) hx hy hdx hdy hx2 hy2 h
    rw [hk, hz] at he hr
    refine ⟨A, c, he, hr, hm.low hR hn, ⟨_, fun k hk => ?_, hs'⟩, ⟨R, hm⟩⟩
    rcases hk with hk | hk
    · exact hR k hk
    · have := hk.1
      omega
theorem awk_held {n b bl br : Nat} {W : World} {x y : Int} (hs : AwkSt n b bl br W x y) : ∃ h : Int, h ≤ 36 ∧ Calls Tryz.prog 24 #[.pointer (some ⟨b, 0, none⟩)] W fun e w' => e = .returned (.int .i64 h) ∧ Ext W w' := by
  obtain ⟨R, _, SL, SR, hI, bL, bR⟩ := hs
  have h1 := bL.held
  have h2 := bR.held
  have l1 := L1_length (r2 1 5) x
  have l2 := L1_length (r2 1 7) y
  exact ⟨(heldL SL.bs : Int) + heldL SR.bs, by omega, jHeld_any b bl br _ _ _ _ _ SL SR W hI.at (by omega) (by omega)⟩
theorem awk_nil {n b bl br : Nat} {W : World} {x y : Int} (hs : AwkSt n b bl br W x y) (hg : GW W) (hml : 0 < n) : Calls Tryz.prog 13 #[.pointer (some ⟨b, 0, none⟩), .slice none 0 0] W fun e w' => e = .returned (.tuple #[.slice none 0 0, .int .i64 1]) ∧ Ext W w' := by
  obtain ⟨R, hR, hst⟩ := hs
  refine (jStep_any R b bl br [0] [0] 2 2 0 _ _ [] _ W hg hst (RdL.nil _ _ _ _) (fun h => by have := hR _ h; omega) (fun da dz h => by cases h)).mono fun e w' h => ?_
  unfold StepAny at h
  rw [if_pos (show fitsD 2 2 [] = false from rfl)] at h
  exact h
theorem lit_left {m : Nat} {w2 : World} {A : Option Addr} {c : Nat} (h : RdV w2 (Fresh m [96]) (.slice A 2 c) (r2 1 5)) (R : Nat → Prop) : RdD ((w2.alloc (.cells #[.slice A 2 c, .int .i64 1] 66)).alloc (.cells #[.slice (some ⟨w2.heap.size, 0, none⟩) 1 1, .slice none 0 0] 35)) (Safe R) (.slice (some ⟨w2.heap.size + 1, 0, none⟩) 2 2) [L1 (r2 1 5) 1, L1 (r2 1 7) 0] := by
  have h2 := lit_d (R := R) (lit_z (R := R) h i1) (RdL.nil _ _ _ _ : RdZ (w2.alloc (.cells #[.slice A 2 c, .int .i64 1] 66)) (Safe R) (.slice none 0 0) [])
  show RdD _ _ _ [[⟨r2 1 5, 1⟩], []]
  simpa using h2
theorem lit_right {m : Nat} {w2 : World} {A : Option Addr} {c : Nat} (h : RdV w2 (Fresh m [96]) (.slice A 2 c) (r2 1 7)) (R : Nat → Prop) : RdD ((w2.alloc (.cells #[.slice A 2 c, .int .i64 2] 66)).alloc (.cells #[.slice none 0 0, .slice (some ⟨w2.heap.size, 0, none⟩) 1 1] 35)) (Safe R) (.slice (some ⟨w2.heap.size + 1, 0, none⟩) 2 2) [L1 (r2 1 5) 0, L1 (r2 1 7) 2] := by
  have h2 := lit_d (R := R) (RdL.nil _ _ _ _ : RdZ (w2.alloc (.cells #[.slice A 2 c, .int .i64 2] 66)) (Safe R) (.slice none 0 0) []) (lit_z (R := R) h (by unfold i64; omega : i64 2))
  show RdD _ _ _ [[], [⟨r2 1 7, 2⟩]]
  simpa using h2
theorem lit_both {w3 : World} {v1 v2 : Value} (R : Nat → Prop) (h1 : RdZ w3 (Safe R) v1 (L1 (r2 1 5) 1)) (h2 : RdZ w3 (Safe R) v2 (L1 (r2 1 7) (-1))) : RdD (w3.alloc (.cells #[v1, v2] 35)) (Safe R) (.slice (some ⟨w3.heap.size, 0, none⟩) 2 2) [L1 (r2 1 5) 1, L1 (r2 1 7) (-1)] := lit_d h1 h2
set_option maxRecDepth 100000 in
set_option maxHeartbeats 4000000 in
theorem awakeJ_any (w : World) (hw : GW w) : Calls Tryz.prog 8 #[] w fun e w' => e = .returned (.bool true) ∧ Below w.heap.size w w' := by
  have mixed := mixed
  have hml : 0 < w.heap.size := by
    obtain ⟨m, hm⟩ := hw
    exact World.block_lt_of_cell? w ⟨0, 0, none⟩ hm
  have HW := As.mk hw
  clear hw
  have hB1 := (Ext.alloc (Ext.alloc (Ext.alloc (Ext.refl w) (.cells #[.int .i64 0] 3)) (.cells #[.int .i64 0] 3)) (.cells #[.int .i64 2, .int .i64 2] 3)).below
  have HNEW := As.mk (jNew_any 5 0 0 0 ⟨#[]⟩ false (some ⟨w.heap.size, 0, none⟩) (some ⟨w.heap.size + 1, 0, none⟩) none none none none none 1 1 0 0 0 0 0 0 0 0 0 0 [0] [0] [2, 2] (.slice (some ⟨w.heap.size + 1 + 1, 0, none⟩) 2 2) (((w.alloc (.cells #[.int .i64 0] 3)).alloc (.cells #[.int .i64 0] 3)).alloc (.cells #[.int .i64 2, .int .i64 2] 3))
    ((lit_int1 w 0 (by unfold i64; omega)).ext (Ext.alloc (Ext.alloc (Ext.refl _) _) _).below) (by have h := (lit_int1 (w.alloc (.cells #[.int .i64 0] 3)) 0 (by unfold i64; omega)).ext (Ext.alloc (Ext.refl _) (.cells #[.int .i64 2, .int .i64 2] 3)).below; simpa using h) (by have h := lit_ints2 ((w.alloc (.cells #[.int .i64 0] 3)).alloc (.cells #[.int .i64 0] 3)) 2 2 (by unfold i64; omega) (by unfold i64; omega); simpa using h))
  have HB1 := As.mk hB1
  clear hB1
  go_enter Tryz.func8, Tryz.ntmps8
  go_wp2_with fail
  refine HNEW.out.mono ?_
  rintro e w1 ⟨hB, h⟩
  rcases h with ⟨_, hno⟩ | ⟨b, bl, br, x, y, _, hwd, _, g1, g2, g3, rfl, hJ⟩
  · exact absurd ⟨rfl, 2, 2, rfl, by decide⟩ hno
  · obtain ⟨rfl, rfl⟩ : (2 : Int) = x ∧ (2 : Int) = y := by simpa using hwd
    have hs1 : AwkSt w.heap.size b bl br w1 0 0 := ⟨_, fun k hk => hk.1, JSt.new (n := w.heap.size) hJ (Nat.le_trans HB1.out.size g1) (Nat.le_trans HB1.out.size g2) (Nat.le_trans HB1.out.size g3)⟩
    have HS1 := As.mk hs1
    have HBW1 := As.mk (HB1.out.trans (hB.mono HB1.out.size))
    clear hB hwd g1 g2 g3 hJ hs1 HNEW HB1
    have HNUM := As.mk (lNum_any 1 [1, 5] (.slice (some ⟨w1.heap.size, 0, none⟩) 2 2) (w1.alloc (.cells #[.int .i64 1, .int .i64 5] 3)) (lit_ints2 w1 1 5 i1 (by unfold i64; omega)) i1 (by decide))
    go_wp2_with fail
    refine HNUM.out.mono ?_
    rintro e w2 ⟨A2, c2, rfl, hr2, hB2⟩
    have HB12 := As.mk ((Ext.alloc (Ext.refl w1) (.cells #[.int .i64 1, .int .i64 5] 3)).below.trans (hB2.mono (Ext.alloc (Ext.refl w1) _).size))
    clear hB2
    have hE2 := (Ext.alloc (Ext.alloc (Ext.refl w2) (.cells #[.slice A2 2 c2, .int .i64 1] 66)) (.cells #[.slice (some ⟨w2.heap.size, 0, none⟩) 1 1, .slice none 0 0] 35))
    have HBW2 := As.mk ((HBW1.out.trans (HB12.out.mono HBW1.out.size)).trans (hE2.below.mono (Nat.le_trans HBW1.out.size HB12.out.size)))
    have HST1 := As.mk (awk_step 1 0 0 (z := []) _ ((HS1.out.ext HB12.out).ext hE2.below) HBW2.out.size (HW.out.below HBW2.out) hml (lit_left hr2) ⟨by decide, by decide⟩ ⟨by decide, by decide⟩ ⟨by decide, by decide⟩ ⟨by decide, by decide⟩ ⟨by decide, by decide⟩ ⟨by decide, by decide⟩ (by decide) rfl 1 0 rfl rfl)
    clear hE2 hr2
    go_wp2_with fail
    refine HST1.out.mono ?_
    rintro e w3 ⟨A3, c3, rfl, _, hB3, hs3, _⟩
    have HBW3 := As.mk (HBW2.out.trans hB3)
    have HS3 := As.mk hs3
    clear hB3 hs3 HST1
    have HNUM2 := As.mk (lNum_any 2 [1, 7] (.slice (some ⟨w3.heap.size, 0, none⟩) 2 2) (w3.alloc (.cells #[.int .i64 1, .int .i64 7] 3)) (lit_ints2 w3 1 7 i1 (by unfold i64; omega)) (by unfold i64; omega) (by decide))
    go_wp2_with fail
    refine HNUM2.out.mono ?_
    rintro e w4 ⟨A4, c4, rfl, hr4, hB4⟩
    have HB34 := As.mk ((Ext.alloc (Ext.refl w3) (.cells #[.int .i64 1, .int .i64 7] 3)).below.trans (hB4.mono (Ext.alloc (Ext.refl w3) _).size))
    clear hB4
    have hE4 := (Ext.alloc (Ext.alloc (Ext.refl w4) (.cells #[.slice A4 2 c4, .int .i64 2] 66)) (.cells #[.slice none 0 0, .slice (some ⟨w4.heap.size, 0, none⟩) 1 1] 35))
    have HBW4 := As.mk ((HBW3.out.trans (HB34.out.mono HBW3.out.size)).trans (hE4.below.mono (Nat.le_trans HBW3.out.size HB34.out.size)))
    have HST2 := As.mk (awk_step 0 2 2 (z := [⟨r2 1 5 ++ r2 1 7, 2⟩]) _ ((HS3.out.ext HB34.out).ext hE4.below) HBW4.out.size (HW.out.below HBW4.out) hml (lit_right hr4) ⟨by decide, by decide⟩ ⟨by decide, by decide⟩ ⟨by decide, by decide⟩ ⟨by decide, by decide⟩ ⟨by decide, by decide⟩ ⟨by decide, by decide⟩ (by decide) rfl 1 2 rfl rfl)
    clear hE4 hr4
    go_wp2_with fail
    refine HST2.out.mono ?_
    rintro e w5 ⟨A5, c5, rfl, hr5, hB5, hs5, _⟩
    have HBW5 := As.mk (HBW4.out.trans hB5)
    have HS5 := As.mk hs5
    have HR5 := As.mk hr5
    clear hB5 hs5 hr5 HST2
    have HNUM3 := As.mk (lNum_any 1 [1, 5] (.slice (some ⟨w5.heap.size, 0, none⟩) 2 2) (w5.alloc (.cells #[.int .i64 1, .int .i64 5] 3)) (lit_ints2 w5 1 5 i1 (by unfold i64; omega)) i1 (by decide))
    go_wp2_with fail
    refine HNUM3.out.mono ?_
    rintro e w6 ⟨A6, c6, rfl, hr6, hB6⟩
    have HB56 := As.mk ((Ext.alloc (Ext.refl w5) (.cells #[.int .i64 1, .int .i64 5] 3)).below.trans (hB6.mono (Ext.alloc (Ext.refl w5) _).size))
    clear hB6
    have HZ6 := As.mk (fun R => lit_z (R := R) hr6 i1)
    clear hr6
    have hE6 := Ext.alloc (Ext.alloc (Ext.refl w6) (.cells #[.slice A6 2 c6, .int .i64 1] 66)) (.cells #[.int .i64 1, .int .i64 7] 3)
    have HNUM4 := As.mk (lNum_any (-1) [1, 7] (.slice (some ⟨w6.heap.size + 1, 0, none⟩) 2 2) ((w6.alloc (.cells #[.slice A6 2 c6, .int .i64 1] 66)).alloc (.cells #[.int .i64 1, .int .i64 7] 3)) (by have h := lit_ints2 (w6.alloc (.cells #[.slice A6 2 c6, .int .i64 1] 66)) 1 7 i1 (by unfold i64; omega); simpa using h) (by unfold i64; omega) (by decide))
    go_wp2_with fail
    refine HNUM4.out.mono ?_
    rintro e w7 ⟨A7, c7, rfl, hr7, hB7⟩
    have hE6b := Ext.alloc (Ext.refl (w6.alloc (.cells #[.slice A6 2 c6, .int .i64 1] 66))) (.cells #[.int .i64 1, .int .i64 7] 3)
    have HZ7 := As.mk (fun R => ((HZ6.out R).ext hE6b.below).ext hB7)
    have HB67 := As.mk (hE6.below.trans (hB7.mono hE6.size))
    have HZZ := As.mk (fun R => lit_both R ((HZ7.out R).ext (Ext.alloc (Ext.refl w7) (.cells #[.slice A7 2 c7, .int .i64 (-1)] 66)).below) (lit_z (R := R) hr7 (by unfold i64; omega)))
    have hE7 := Ext.alloc (Ext.alloc (Ext.refl w7) (.cells #[.slice A7 2 c7, .int .i64 (-1)] 66)) (.cells #[.slice (some ⟨w6.heap.size, 0, none⟩) 1 1, .slice (some ⟨w7.heap.size, 0, none⟩) 1 1] 35)
    clear hB7 hr7 hE6 hE6b
    have HB57 := As.mk (HB56.out.trans (HB67.out.mono HB56.out.size))
    have HBW7 := As.mk ((HBW5.out.trans (HB57.out.mono HBW5.out.size)).trans (hE7.below.mono (Nat.le_trans HBW5.out.size HB57.out.size)))
    have HST3 := As.mk (awk_step 1 (-1) 0 (z := []) (.slice (some ⟨w7.heap.size + 1, 0, none⟩) 2 2) ((HS5.out.ext HB57.out).ext hE7.below) HBW7.out.size (HW.out.below HBW7.out) hml (fun R => by have h := HZZ.out R; simpa using h) ⟨by decide, by decide⟩ ⟨by decide, by decide⟩ ⟨by decide, by decide⟩ ⟨by decide, by decide⟩ ⟨by decide, by decide⟩ ⟨by decide, by decide⟩ (by decide) rfl 2 1 rfl rfl)
    have HR7 := As.mk (RdZ2.ext (RdZ2.ext HR5.out HB57.out) hE7.below)
    clear hE7
    go_wp2_with fail
    refine HST3.out.mono ?_
    rintro e w8 ⟨A8, c8, rfl, _, hB8, hs8, R8, hm8⟩
    have HBW8 := As.mk (HBW7.out.trans hB8)
    have HS8 := As.mk hs8
    have HR8 := As.mk (HR7.out.jmut hm8)
    have HNIL := As.mk (awk_nil hs8 (HW.out.below HBW8.out) hml)
    clear hB8 hs8 hm8 HST3
    go_wp2_with fail
    refine HNIL.out.mono ?_
    rintro e w9 ⟨rfl, hE9⟩
    have HE9 := As.mk hE9
    have HBW9 := As.mk (HBW8.out.trans (hE9.below.mono HBW8.out.size))
    clear hE9
    have HNUM5 := As.mk (lNum_any 2 [1, 5, 1, 7] (.slice (some ⟨w9.heap.size, 0, none⟩) 4 4) (w9.alloc (.cells #[.int .i64 1, .int .i64 5, .int .i64 1, .int .i64 7] 3)) (lit_ints4 w9 1 5 1 7 i1 (by unfold i64; omega) i1 (by unfold i64; omega)) (by unfold i64; omega) (by decide))
    go_wp2_with fail
    refine HNUM5.out.mono ?_
    rintro e w10 ⟨A10, c10, rfl, hr10, hB10⟩
    have HB910 := As.mk ((Ext.alloc (Ext.refl w9) (.cells #[.int .i64 1, .int .i64 5, .int .i64 1, .int .i64 7] 3)).below.trans (hB10.mono (Ext.alloc (Ext.refl w9) _).size))
    clear hB10
    have HZ10 := As.mk (lit_z (R := fun _ => False) hr10 (by unfold i64; omega : i64 2))
    have hE10 := Ext.alloc (Ext.refl w10) (.cells #[.slice A10 4 c10, .int .i64 2] 66)
    have HBW10 := As.mk ((HBW9.out.trans (HB910.out.mono HBW9.out.size)).trans (hE10.below.mono (Nat.le_trans HBW9.out.size HB910.out.size)))
    have HS10 := As.mk (((HS8.out.ext HE9.out.below).ext HB910.out).ext hE10.below)
    have HSAME := As.mk (same3_any (.slice A5 1 c5) (.slice (some ⟨w10.heap.size, 0, none⟩) 1 1) [⟨r2 1 5 ++ r2 1 7, 2⟩] [⟨r2 1 5 ++ r2 1 7, 2⟩] (w10.alloc (.cells #[.slice A10 4 c10, .int .i64 2] 66)) (RdZ2.ext (RdZ2.ext (RdZ2.ext HR8.out HE9.out.below) HB910.out) hE10.below).any (HZ10.out.mv (Stays.any _ _)))
    rw [(sameZ_eq _ _).2 rfl] at HSAME
    clear hE10 hr10
    go_wp2_with fail
    refine HSAME.out.mono ?_
    rintro e w11 ⟨rfl, m, rfl⟩
    have hE11 : Ext (w10.alloc (.cells #[.slice A10 4 c10, .int .i64 2] 66)) ((w10.alloc (.cells #[.slice A10 4 c10, .int .i64 2] 66)).drewN m) := Ext.drewN (Ext.refl _) m
    obtain ⟨hh, hh36, hHeld⟩ := awk_held (HS10.out.ext hE11.below)
    have HHELD := As.mk hHeld
    have HBW11 := As.mk (HBW10.out.trans (hE11.below.mono HBW10.out.size))
    clear hHeld hE11
    go_wp2_with fail
    refine HHELD.out.mono ?_
    rintro e w12 ⟨rfl, hE12⟩
    have HBW12 := As.mk (HBW11.out.trans (hE12.below.mono HBW11.out.size))
    clear hE12
    go_wp2_with fail
    go_ret
    exact ⟨rfl, HBW12.out⟩
end Go.Proofs.YtflckpfpgpfjlaaGreatDoor
end
