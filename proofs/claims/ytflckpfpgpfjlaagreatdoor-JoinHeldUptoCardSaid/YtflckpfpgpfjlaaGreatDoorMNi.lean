/- The walk of the reference's Step. -/
import Derived.Test.YtflckpfpgpfjlaaGreatDoorMNg
import Derived.Deep.RegionHeld3
import Derived.OwnWalk
set_option linter.unusedVariables false
set_option linter.unusedSimpArgs false
namespace Go.Proofs.YtflckpfpgpfjlaaGreatDoor
open Go.RowKit Go.Sort
def bagW (z : List GE) : Bool := z.all fun x => decide (1 ≤ x.w) && decide (x.w ≤ 1099511627776)
theorem bagW_at {z : List GE} (h : bagW z = true) : ∀ x ∈ z, 1 ≤ x.w ∧ x.w ≤ 1099511627776 := fun x hx => by
  have := List.all_eq_true.1 h x hx
  simpa using this
set_option maxRecDepth 100000 in
set_option maxHeartbeats 1000000 in
theorem r8Bag_any (v : Value) (z : List GE) (w : World) (hz : RdZ w AnyB v z) : Calls Tryz.prog 47 #[v] w fun e w' => e = .returned (.bool (bagW z)) ∧ Ext w w' := by
  have mixed := mixed
  obtain ⟨A, c, rfl, _⟩ := hz.shape
  have hl := hz.len
  have HZ := As.mk hz
  clear hz
  go_enter Tryz.func47, Tryz.ntmps47
  go_wp2_with fail
  go_loopg [3] z.length (fun g s3 wr => ∃ k : Nat, k ≤ z.length ∧ z.length - k ≤ g ∧ s3 = .int .i64 k ∧ w = wr ∧ As (bagW (z.take k) = true))
  case atStart => exact ⟨0, by omega, by omega, by go_num, rfl, ⟨rfl⟩⟩
  case round =>
    obtain ⟨k, hk, hg, rfl, rfl, HA⟩ := hrel
    by_cases hlt : k < z.length
    · have hltz : (k : Int) < (z.length : Int) := by omega
      obtain ⟨x, hx⟩ : ∃ x, z[k]? = some x := ⟨_, List.getElem?_eq_getElem hlt⟩
      obtain ⟨b, o, c', A1, d1, hv, hb, hxs, hrw, e0, e1⟩ := RdZ.ent HZ.out hx
      injection hv with hA _ hcc
      subst hA
      have HX := As.mk hx
      clear hx hcc hrw
      have HNO : As (¬ (1 ≤ x.w ∧ x.w ≤ 1099511627776) → bagW z = false) := ⟨fun h => by
        unfold bagW
        rw [← Bool.not_eq_true, List.all_eq_true]
        intro h2
        have := h2 x (List.mem_of_getElem? HX.out)
        simp at this
        exact h this⟩
      by_cases h1 : x.w < 1
      · have HF := As.mk (HNO.out (by omega))
        go_wp2_with fail
        go_ret
        exact ⟨by rw [HF.out]; rfl, (by with_reducible (repeat first | exact Ext.refl _ | assumption | apply Ext.alloc | apply Ext.drewN | apply Ext.drew | apply Ext.grow | refine Ext.trans ?_ (by assumption)))⟩
      · by_cases h2 : 1099511627776 < x.w
        · have HF := As.mk (HNO.out (by omega))
          go_wp2_with fail
          go_ret
          exact ⟨by rw [HF.out]; rfl, (by with_reducible (repeat first | exact Ext.refl _ | assumption | apply Ext.alloc | apply Ext.drewN | apply Ext.drew | apply Ext.grow | refine Ext.trans ?_ (by assumption)))⟩
        · have HY : As (bagW (z.take (k + 1)) = true) := ⟨by
            rw [take_snoc HX.out]
            unfold bagW at *
            rw [List.all_append, HA.out]
            simp; omega⟩
          go_wp2_with fail
          go_roundg (z.length - (k + 1))
          case measure => omega
          case rel => exact ⟨k + 1, by omega, by omega, by go_num, rfl, HY⟩
    · have hltz : ¬ (k : Int) < (z.length : Int) := by omega
      obtain rfl : k = z.length := by omega
      rw [List.take_length] at HA
      go_wp2_with fail
      go_ret
      exact ⟨by rw [HA.out]; rfl, (by with_reducible (repeat first | exact Ext.refl _ | assumption | apply Ext.alloc | apply Ext.drewN | apply Ext.drew | apply Ext.grow | refine Ext.trans ?_ (by assumption)))⟩
def ERes (w : World) (ok : Blk) (z : List GE) (cs : List Value) : Prop := ∃ v, cs = [v, .int .i64 0] ∧ RdZ w ok v z
theorem ERes.mv {w w' : World} {ok ok' : Blk} {z : List GE} {cs : List Value} (h : ERes w ok z cs) (hs : Stays w w' ok ok') : ERes w' ok' z cs := let ⟨v, h1, h2⟩ := h; ⟨v, h1, h2.mv hs⟩
def AddShape (a b : List GE) (w : World) (e : Ending) (w' : World) : Prop := ∃ (A : Option Addr) (n c : Nat) (q : Int) (y : List GE), e = .returned (.tuple #[.slice A n c, .int .i64 q]) ∧ Below w.heap.size w w' ∧ (q ≠ 0 ∨ (q = 0 ∧ n = y.length ∧ Made (a ++ b) y ∧ RdZ2 w' w.heap.size (.slice A n c) y))
theorem AddPost.shape {a b : List GE} {w w' : World} {e : Ending} (h : AddPost a b w e w') (ha : zsound a = true) (hb : zsound b = true) : AddShape a b w e w' := by
  obtain ⟨hB, h⟩ := h
  rw [if_neg (by rw [ha, hb]; simp)] at h
  by_cases ho : overL (a ++ b) = true
  · rw [if_pos ho] at h
    exact ⟨none, 0, 0, 11, [], h, hB, .inl (by decide)⟩
  · rw [if_neg ho] at h
    obtain ⟨v, z, he, hm, hr, _⟩ := h
    obtain ⟨A, c, rfl, _⟩ := hr.shape
    exact ⟨A, z.length, c, 0, z, he, hB, .inr ⟨rfl, rfl, hm, hr⟩⟩
structure HalfW (ws : List Int) (bags ds bs : List (List GE)) (i : Nat) : Prop where
  len : bs.length = bags.length
  old : ∀ j, i ≤ j → bs[j]? = bags[j]?
  new : ∀ (j : Nat) (n : Int) (z d y : List GE), j < i → ws[j]? = some n → bags[j]? = some z → ds[j]? = some d → bs[j]? = some y → Made (z ++ d) y ∧ RBag n y
theorem HalfW.start (ws : List Int) (bags ds : List (List GE)) : HalfW ws bags ds bags 0 := ⟨rfl, fun _ _ => rfl, fun j _ _ _ _ h => absurd h (Nat.not_lt_zero _)⟩
theorem HalfW.next {ws : List Int} {bags ds bs : List (List GE)} {i : Nat} (h : HalfW ws bags ds bs i) {n : Int} {z d y : List GE} (hn : ws[i]? = some n) (hz : bags[i]? = some z) (hd : ds[i]? = some d) (hm : Made (z ++ d) y) (hr : RBag n y) : HalfW ws bags ds (bs.set i y) (i + 1) := by
  refine ⟨by simp [h.len], fun j hj => ?_, fun j n' z' d' y' hj h1 h2 h3 h4 => ?_⟩
  · rw [List.getElem?_set_ne (by omega)]; exact h.old j (by omega)
  · by_cases e : j = i
    · subst e
      rw [hn] at h1; rw [hz] at h2; rw [hd] at h3
      rw [List.getElem?_set_self (by rw [h.len]; exact (List.getElem?_eq_some_iff.1 hz).1)] at h4
      injection h1 with h1; injection h2 with h2; injection h3 with h3; injection h4 with h4
      subst h1 h2 h3 h4
      exact ⟨hm, hr⟩
    · rw [List.getElem?_set_ne (by omega)] at h4
      exact h.new j n' z' d' y' (by omega) h1 h2 h3 h4
theorem HalfW.done {ws : List Int} {bags ds bs : List (List GE)} {i : Nat} (h : HalfW ws bags ds bs i) (hi : ws.length ≤ i) : Stepped ws bags ds bs :=
  ⟨h.len, fun j n z d y h1 h2 h3 h4 => h.new j n z d y (by have := (List.getElem?_eq_some_iff.1 h1).1; omega) h1 h2 h3 h4⟩
theorem take_set_snoc {α : Type} {l : List α} {i : Nat} (h : i < l.length) (y : α) : (l.set i y).take (i + 1) = l.take i ++ [y] := by
  rw [List.take_add_one, List.getElem?_set_self h, List.take_set_of_le (Nat.le_refl _)]
  rfl
def NodePost (N : List (List GE) → Int → List GE → Prop) (zs : List (List GE)) (W : World) (e : Ending) (W' : World) : Prop := Below W.heap.size W W' ∧
      ∃ (A : Option Addr) (c : Nat) (k : Int) (y : List GE), e = .returned (.agg #[.slice A y.length c, .int .i64 k]) ∧ N zs k y ∧ (k = 0 → RdZ W' EBk (.slice A y.length c) y ∧ (∃ n, RBag n y) ∧ y.length ≤ 1073741824) ∧ (k ≠ 0 → y = [])
def NodeSays (ub gb : Nat) (w : World) (op m1 m2 nk : Int) (name : ByteArray) (anti : Bool) (A1 A2 A3 A4 A5 A6 A7 : Option Addr) (l1 c1 l2 c2 l3 c3 l4 c4 l5 c5 l6 c6 l7 c7 : Nat) (ws : List Int) (N : List (List GE) → Int → List GE → Prop) (bags ds : List (List GE)) : Prop :=
  ∀ (W : World) (zs : List (List GE)) (A B : Option Addr) (n1 n2 a b : Nat) (vk : Value), Wrote (RW ub gb) w W → fitsL ws ds = true → Stepped ws bags ds zs → zs.length = ws.length → (∀ (i : Nat) (z : List GE) (n : Int), zs[i]? = some z → ws[i]? = some n → RBag n z) →
    RdZ W AnyB (.slice A n1 a) (zs.getD 0 []) → RdZ W AnyB (.slice B n2 b) (zs.getD 1 []) → (op ≠ 15 → vk = .slice none 0 0) → (op = 15 → RdL 2 (ERes W EBk) W AnyB vk zs) →
    Calls Tryz.prog 48 #[.agg #[.slice none 0 0, .slice none 0 0, .int .i64 1], .agg #[.int .i64 op, .int .i64 m1, .int .i64 m2, .int .i64 nk, .string name, .bool anti, .slice A1 l1 c1, .slice A2 l2 c2, .slice A3 l3 c3, .slice A4 l4 c4, .slice A5 l5 c5, .slice A6 l6 c6, .slice A7 l7 c7], .agg #[.slice A n1 a, .int .i64 0], .agg #[.slice B n2 b, .int .i64 0], vk, .int .i64 (ws.getD 1 0)] W (NodePost N zs W)
def RStepPost (base ub gb : Nat) (nd : List Value) (ws : List Int) (N : List (List GE) → Int → List GE → Prop) (bags : List (List GE)) (s : List GE) (broken : Int) (ds : List (List GE)) (w : World) (e : Ending) (w' : World) : Prop :=
  if fitsL ws ds = false then e = .returned (.tuple #[.slice none 0 0, .int .i64 1, .bool true]) ∧ Ext w w'
  else if broken ≠ 0 then e = .returned (.tuple #[.slice none 0 0, .int .i64 broken, .bool true]) ∧ Ext w w'
  else Wrote (RW ub gb) w w' ∧ (e = .returned (.tuple #[.slice none 0 0, .int .i64 0, .bool false]) ∨
    ∃ (bags2 : List (List GE)) (k : Int) (y : List GE), Stepped ws bags ds bags2 ∧ N bags2 k y ∧
      ((k ≠ 0 ∧ e = .returned (.tuple #[.slice none 0 0, .int .i64 k, .bool true]) ∧ ROp base ub gb w' nd ws bags2 s k) ∨
       (k = 0 ∧ ∃ (A : Option Addr) (c : Nat) (d : List GE), e = .returned (.tuple #[.slice A d.length c, .int .i64 0, .bool true]) ∧ Made (y ++ s.map GE.neg) d ∧ RdZ w' EBk (.slice A d.length c) d ∧ ROp base ub gb w' nd ws bags2 y 0)))
theorem RStepPost.misfit {base ub gb : Nat} {nd : List Value} {ws : List Int} {N : List (List GE) → Int → List GE → Prop} {bags : List (List GE)} {s : List GE} {broken : Int} {ds : List (List GE)} {w w' : World} (h : fitsL ws ds = false) (hE : Ext w w') : RStepPost base ub gb nd ws N bags s broken ds w (.returned (.tuple #[.slice none 0 0, .int .i64 1, .bool true])) w' := by
  unfold RStepPost; rw [if_pos h]; exact ⟨rfl, hE⟩
theorem RStepPost.broken {base ub gb : Nat} {nd : List Value} {ws : List Int} {N : List (List GE) → Int → List GE → Prop} {bags : List (List GE)} {s : List GE} {broken : Int} {ds : List (List GE)} {w w' : World} (h : fitsL ws ds = true) (hb : broken ≠ 0) (hE : Ext w w') : RStepPost base ub gb nd ws N bags s broken ds w (.returned (.tuple #[.slice none 0 0, .int .i64 broken, .bool true])) w' := by
  unfold RStepPost; rw [if_neg (by rw [h]; decide), if_pos hb]; exact ⟨rfl, hE⟩
theorem RStepPost.live {base ub gb : Nat} {nd : List Value} {ws : List Int} {N : List (List GE) → Int → List GE → Prop} {bags : List (List GE)} {s : List GE} {ds : List (List GE)} {w w' : World} {e : Ending} (h : fitsL ws ds = true) (hp : Wrote (RW ub gb) w w' ∧ (e = .returned (.tuple #[.slice none 0 0, .int .i64 0, .bool false]) ∨
    ∃ (bags2 : List (List GE)) (k : Int) (y : List GE), Stepped ws bags ds bags2 ∧ N bags2 k y ∧
      ((k ≠ 0 ∧ e = .returned (.tuple #[.slice none 0 0, .int .i64 k, .bool true]) ∧ ROp base ub gb w' nd ws bags2 s k) ∨
       (k = 0 ∧ ∃ (A : Option Addr) (c : Nat) (d : List GE), e = .returned (.tuple #[.slice A d.length c, .int .i64 0, .bool true]) ∧ Made (y ++ s.map GE.neg) d ∧ RdZ w' EBk (.slice A d.length c) d ∧ ROp base ub gb w' nd ws bags2 y 0)))) : RStepPost base ub gb nd ws N bags s 0 ds w e w' := by
  unfold RStepPost; rw [if_neg (by rw [h]; decide), if_neg (by decide)]; exact hp
theorem fits_at {n : Int} {z : List GE} (h : fitsZ n z = true) : zsound z = true ∧ ∀ x ∈ z, (x.row.length : Int) = n := fits_parts h
theorem info_res : (Tryz.prog.info? 103).map (fun i => (i.zero, i.size, i.bytes)) = some (some (.agg #[.slice none 0 0, .int .i64 0]), 2, 32) := by kernel_rfl
theorem res_keep {W1 W w3 : World} (hE : Ext (W1.alloc (.cells #[.slice none 0 0, .int .i64 0] 103)) W) (h : Below W.heap.size W w3) : w3.heap[W1.heap.size]? = some (.cells #[.slice none 0 0, .int .i64 0] 103 (0, 0)) := by
  have h1 : (W1.alloc (.cells #[.slice none 0 0, .int .i64 0] 103)).heap[W1.heap.size]? = some (.cells #[.slice none 0 0, .int .i64 0] 103 (0, 0)) := heap_alloc_new W1 _
  have h2 := (hE.block _ (Array.getElem?_eq_some_iff.1 h1).1).trans h1
  exact (h.block _ (Array.getElem?_eq_some_iff.1 h2).1).trans h2
theorem res_keepA {W1 w3 : World} (h : Below (W1.alloc (.cells #[.slice none 0 0, .int .i64 0] 103)).drew.heap.size (W1.alloc (.cells #[.slice none 0 0, .int .i64 0] 103)).drew w3) : w3.heap[W1.heap.size]? = some (.cells #[.slice none 0 0, .int .i64 0] 103 (0, 0)) := res_keep (Ext.drew (Ext.refl _)) h
theorem res_keepB {W1 w3 : World} (h : Below (W1.alloc (.cells #[.slice none 0 0, .int .i64 0] 103)).heap.size (W1.alloc (.cells #[.slice none 0 0, .int .i64 0] 103)) w3) : w3.heap[W1.heap.size]? = some (.cells #[.slice none 0 0, .int .i64 0] 103 (0, 0)) := res_keep (Ext.refl _) h
theorem res_keepC {W1 w3 : World} (h : Below (W1.drew.alloc (.cells #[.slice none 0 0, .int .i64 0] 103)).heap.size (W1.drew.alloc (.cells #[.slice none 0 0, .int .i64 0] 103)) w3) : w3.heap[W1.heap.size]? = some (.cells #[.slice none 0 0, .int .i64 0] 103 (0, 0)) := by
  have h1 : (W1.drew.alloc (.cells #[.slice none 0 0, .int .i64 0] 103)).heap[W1.heap.size]? = some (.cells #[.slice none 0 0, .int .i64 0] 103 (0, 0)) := heap_alloc_new W1.drew _
  exact (h.block _ (Array.getElem?_eq_some_iff.1 h1).1).trans h1
theorem cell_set2 {W : World} {k b j : Nat} {x y v : Value} (hne : b ≠ k) (h : W.cell? ⟨b, j, none⟩ = some v) : ((W.setCell ⟨k, 0, none⟩ x).setCell ⟨k, 1, none⟩ y).cell? ⟨b, j, none⟩ = some v := by
  rw [World.cell?_of_block (heap_setCell_other _ ⟨k, 1, none⟩ b y hne), World.cell?_of_block (heap_setCell_other _ ⟨k, 0, none⟩ b x hne)]; exact h
theorem RBag.at {n : Int} {z : List GE} (h : RBag n z) (r : List GV) : 0 ≤ zw z r ∧ zw z r ≤ 1099511627776 := by
  by_cases h0 : zw z r = 0
  · rw [h0]; exact ⟨by decide, by decide⟩
  · obtain ⟨x, hx, rfl⟩ := zw_mem h0
    rw [h.ok.at hx]
    have := h.w x hx
    omega
theorem over_sub {n m : Int} {y s : List GE} (hy : RBag n y) (hs : RBag m s) : overL (y ++ s.map GE.neg) = false := by
  unfold overL
  rw [List.any_eq_false]
  intro x _
  have h1 := hy.at x.row
  have h2 := hs.at x.row
  rw [zw_app, zw_neg', fair_of (by omega) (by omega)]
  simp
def SubPost (y s : List GE) (w : World) (e : Ending) (w' : World) : Prop := ∃ (A : Option Addr) (c : Nat) (d : List GE), e = .returned (.tuple #[.slice A d.length c, .int .i64 0]) ∧ Made (y ++ s.map GE.neg) d ∧ RdZ2 w' w.heap.size (.slice A d.length c) d ∧ Below w.heap.size w w'
theorem ROpV.set2 {base ub gb : Nat} {V S G : Option Addr} {vc sc gc : Nat} {w : World} {nd : List Value} {ws : List Int} {bags : List (List GE)} {s : List GE} {broken : Int} (h : ROpV base ub gb V S G vc sc gc w nd ws bags s broken) {k : Nat} {x y : Value} {c : Array Value} (hk : w.heap[k]? = some (.cells c 103 (0, 0))) : ROpV base ub gb V S G vc sc gc ((w.setCell ⟨k, 0, none⟩ x).setCell ⟨k, 1, none⟩ y) nd ws bags s broken := by
  have hk1 := heap_setCell_same w k 0 c 103 x hk
  have key : ∀ (j : Nat) (c' : Array Value) (T : TypeId), T ≠ 103 → w.heap[j]? = some (.cells c' T (0, 0)) → ((w.setCell ⟨k, 0, none⟩ x).setCell ⟨k, 1, none⟩ y).heap[j]? = some (.cells c' T (0, 0)) := fun j c' T hT hh => by
    have hne : j ≠ k := by rintro rfl; exact tags_ne hh hk hT
    rw [heap_setCell_other _ ⟨k, 1, none⟩ j y hne, heap_setCell_other _ ⟨k, 0, none⟩ j x hne]; exact hh
  exact h.keep (fun c hc => key ub c _ (by decide) hc) (fun c hc => key gb c _ (by decide) hc) ((set_typed hk _ (by decide)).trans (set_typed hk1 _ (by decide))) ((set_typed hk _ (by decide)).trans (set_typed hk1 _ (by decide)))
def AftN (base ub gb : Nat) (V S G : Option Addr) (vc sc gc : Nat) (nd : List Value) (ws : List Int) (bs : List (List GE)) (s : List GE) (w W4 : World) (rb : Nat) (v : Value) (q : Int) (y : List GE) : Prop :=
  W4.heap[rb]? = some (.cells #[v, .int .i64 q] 103 (0, 0)) ∧ ROpV base ub gb V S G vc sc gc W4 nd ws bs s 0 ∧ Wrote (RW ub gb) w W4 ∧ (q = 0 → RdZ W4 EBk v y)
section
variable {base ub gb : Nat} {V S G : Option Addr} {vc sc gc : Nat} {w W1 w3 : World} {nd : List Value} {ws : List Int} {bs : List (List GE)} {s y : List GE} {v : Value} {q : Int}
theorem AftN.one (h : ROpV base ub gb V S G vc sc gc W1 nd ws bs s 0) (hw : Wrote (RW ub gb) w W1) (hB : Below W1.heap.size W1 w3) (hy : q = 0 → RdZ w3 EBk v y) : AftN base ub gb V S G vc sc gc nd ws bs s w (w3.alloc (.cells #[v, .int .i64 q] 103)) w3.heap.size v q y := by
  have hE := Ext.alloc (Ext.refl w3) (.cells #[v, .int .i64 q] 103)
  exact ⟨heap_alloc_new w3 _, (h.ext hB).ext hE.below, (hw.trans (Wrote.of hB)).trans (Wrote.of hE.below), fun e => (hy e).ext hE.below⟩
theorem AftN.two (h : ROpV base ub gb V S G vc sc gc W1 nd ws bs s 0) (hw : Wrote (RW ub gb) w W1) (hB : Below W1.heap.size W1 w3) (hk : w3.heap[W1.heap.size]? = some (.cells #[.slice none 0 0, .int .i64 0] 103 (0, 0))) (hy : q = 0 → RdZ w3 EBk v y) :
    AftN base ub gb V S G vc sc gc nd ws bs s w ((w3.setCell ⟨W1.heap.size, 0, none⟩ v).setCell ⟨W1.heap.size, 1, none⟩ (.int .i64 q)) W1.heap.size v q y := by
  have hk1 := heap_setCell_same w3 W1.heap.size 0 _ 103 v hk
  refine ⟨set2_heap hk, (h.ext hB).set2 hk, ?_, fun e => ((hy e).mv (set_typed hk _ (by decide))).mv (set_typed hk1 _ (by decide))⟩
  have h1 := hw.trans (Wrote.of hB)
  exact ⟨h1.os, h1.tape, h1.output, by simpa using h1.size, fun j hj hp => by
    have hne : j ≠ W1.heap.size := by have := hw.size; omega
    rw [heap_setCell_other _ ⟨W1.heap.size, 1, none⟩ j _ hne, heap_setCell_other _ ⟨W1.heap.size, 0, none⟩ j _ hne]
    exact h1.block j hj hp⟩
end
theorem below_via {w W w3 : World} (hE : Ext w W) (h : Below W.heap.size W w3) : Below w.heap.size w w3 := hE.below.trans (h.mono hE.size)
theorem made_rows {n : Int} {z d y : List GE} (hm : Made (z ++ d) y) (hz : ∀ x ∈ z, (x.row.length : Int) = n) (hd : ∀ x ∈ d, (x.row.length : Int) = n) : ∀ x ∈ y, (x.row.length : Int) = n := fun x hx => by
  have h1 := hm.ok.w x hx
  rw [← hm.ok.at hx, hm.sum] at h1
  obtain ⟨u, hu, e⟩ := zw_mem h1
  rw [← e]
  rcases List.mem_append.1 hu with hu | hu
  · exact hz u hu
  · exact hd u hu
theorem RdZ2.ebk {w : World} {lo : Nat} {v : Value} {z : List GE} (h : RdZ2 w lo v z) : RdZ w EBk v z := (RdZ2.both h).mv (Stays.mono fun k t h => ⟨Nat.zero_le _, by have := h.2; simp only [List.mem_cons, List.not_mem_nil, or_false] at *; exact this.symm⟩)
theorem Wrote.grown {P : Nat → Prop} {w W w1 : World} {row : Option Nat} (h : Wrote P w W) (hg : W.grownBy w1 row) (hr : ∀ g, row = some g → w.heap.size ≤ g) : Wrote P w w1 :=
  ⟨hg.os.trans h.os, hg.tape.trans h.tape, hg.output.trans h.output, Nat.le_trans h.size hg.size, fun k hk hp => (hg.block k (Nat.lt_of_lt_of_le hk h.size) fun e => by have := hr k e.symm; omega).trans (h.block k hk hp)⟩
theorem ROpV.grown {base ub gb : Nat} {V S G : Option Addr} {vc sc gc : Nat} {w w' : World} {nd : List Value} {ws : List Int} {bags : List (List GE)} {s : List GE} {broken : Int} (h : ROpV base ub gb V S G vc sc gc w nd ws bags s broken) {α : Type} {sz n : Nat} {E : α → List Value → Prop} {v : Value} {xs : List α} (ho : OwnL sz E 103 w n v xs) (hg : w.grownBy w' v.ownBlock) : ROpV base ub gb V S G vc sc gc w' nd ws bags s broken := by
  have key : ∀ (k : Nat) (c : Array Value) (T : TypeId), T ≠ 103 → w.heap[k]? = some (.cells c T (0, 0)) → w'.heap[k]? = some (.cells c T (0, 0)) := fun k c T hT hh => (hg.block k (Array.getElem?_eq_some_iff.1 hh).1 fun e => by
    obtain ⟨c', hc⟩ := ho.typed k e.symm
    exact tags_ne hh hc hT).trans hh
  exact h.keep (fun c hc => key ub c _ (by decide) hc) (fun c hc => key gb c _ (by decide) hc) (ho.rowStays hg fun k h => by have := h.2; revert this; decide) (ho.rowStays hg fun k h => by have := h.2; revert this; decide)
theorem Wrote.low_rd {base ub gb : Nat} {V S G : Option Addr} {vc sc gc : Nat} {w w' : World} {nd : List Value} {ws : List Int} {bags : List (List GE)} {s : List GE} {broken : Int} (h : Wrote (RW ub gb) w w') (ho : ROpV base ub gb V S G vc sc gc w nd ws bags s broken) {v : Value} {ds : List (List GE)} (hv : RdD w (Old base) v ds) (hbw : base ≤ w.heap.size) (hgb : base ≤ gb) : RdD w' (Old base) v ds :=
  hv.mv fun k t cells fr hok hh => ⟨hok, (h.block k (Array.getElem?_eq_some_iff.1 hh).1 fun hp => by
    have h1 : k < base := hok.1
    have h2 := ho.1
    rcases hp with rfl | rfl <;> omega).trans hh⟩
set_option maxRecDepth 100000 in
set_option maxHeartbeats 4000000 in
theorem r8Step_any (base ub gb : Nat) (op m1 m2 nk : Int) (name : ByteArray) (anti : Bool) (A1 A2 A3 A4 A5 A6 A7 : Option Addr) (l1 c1 l2 c2 l3 c3 l4 c4 l5 c5 l6 c6 l7 c7 : Nat) (ws : List Int) (N : List (List GE) → Int → List GE → Prop) (bags : List (List GE)) (s : List GE) (broken : Int) (ds : List (List GE)) (v : Value) (w : World) (h : ROp base ub gb w [.int .i64 op, .int .i64 m1, .int .i64 m2, .int .i64 nk, .string name, .bool anti, .slice A1 l1 c1, .slice A2 l2 c2, .slice A3 l3 c3, .slice A4 l4 c4, .slice A5 l5 c5, .slice A6 l6 c6, .slice A7 l7 c7] ws bags s broken) (hbw : base ≤ w.heap.size ∧ base ≤ gb) (hv : RdD w (Old base) v ds)
    (hb : ∀ (i : Nat) (z : List GE) (n : Int), bags[i]? = some z → ws[i]? = some n → RBag n z) (hs : ∃ n, RBag n s) (hsl : s.length ≤ 1073741824) (hlen : ∀ z ∈ bags, ∀ d ∈ ds, z.length + d.length ≤ 2147483648) (HN : NodeSays ub gb w op m1 m2 nk name anti A1 A2 A3 A4 A5 A6 A7 l1 c1 l2 c2 l3 c3 l4 c4 l5 c5 l6 c6 l7 c7 ws N bags ds) (h2 : 2 ≤ ws.length) (h15 : (op != 15) = true) :
    Calls Tryz.prog 23 #[.pointer (some ⟨ub, 0, none⟩), v] w (RStepPost base ub gb [.int .i64 op, .int .i64 m1, .int .i64 m2, .int .i64 nk, .string name, .bool anti, .slice A1 l1 c1, .slice A2 l2 c2, .slice A3 l3 c3, .slice A4 l4 c4, .slice A5 l5 c5, .slice A6 l6 c6, .slice A7 l7 c7] ws N bags s broken ds w) := by
  have mixed := mixed
  obtain ⟨V, S, G, vc, sc, gc, h⟩ := h
  obtain ⟨A, c, rfl, _⟩ := hv.shape
  have hdl := hv.len
  have hwl := h.2.2.2.2.1.len
  have hbl := h.2.1
  have HOP := As.mk h
  have HV := As.mk hv
  have HBG := As.mk hb
  have HS := As.mk hs
  have HSL := As.mk hsl
  have HLEN := As.mk hlen
  have HND := As.mk HN
  have HBW := As.mk hbw
  have HL2 := As.mk h2
  have H15 := As.mk h15
  clear h2 h15 h hv hb hs hsl hlen HN hbw
  by_cases hdw : ds.length = ws.length
  · obtain ⟨hn, c13, c14, c15, c16, cf⟩ := HOP.out.cells
    have hdwz : ((ds.length : Int) != (ws.length : Int)) = false := by simp; omega
    have HDW := As.mk hdw
    clear hn c15 cf hdw
    go_enter Tryz.func23, Tryz.ntmps23
    go_wp2_with fail
    go_loopg [4, 5, 6, 7, 8] ws.length (fun g _ _ _ s7 _ wr => ∃ i : Nat, i ≤ ws.length ∧ ws.length - i ≤ g ∧ s7 = .int .i64 i ∧ As (Ext w wr) ∧ As (∀ (j : Nat) (n : Int) (d : List GE), j < i → ws[j]? = some n → ds[j]? = some d → fitsZ n d = true))
    case atStart => exact ⟨0, by omega, by omega, by go_num, ⟨Ext.refl _⟩, ⟨fun j _ _ h => absurd h (Nat.not_lt_zero _)⟩⟩
    case round =>
      obtain ⟨i, hi, hg, rfl, HE, HF⟩ := hrel
      have c13 := HE.out.cell c13
      have c14 := HE.out.cell c14
      have c16 := HE.out.cell c16
      by_cases hlt : i < ws.length
      · have hltz : (i : Int) < (ds.length : Int) := by have := HDW.out; omega
        obtain ⟨d, hd⟩ : ∃ d, ds[i]? = some d := ⟨_, List.getElem?_eq_getElem (by have := HDW.out; omega)⟩
        obtain ⟨n, hn⟩ : ∃ n, ws[i]? = some n := ⟨_, List.getElem?_eq_getElem hlt⟩
        obtain ⟨bi, oi, ci, Ad, cd, hvi, hbi, hrd, e0⟩ := RdD.delta (HV.out.ext HE.out.below) hd
        injection hvi with hA _ hcc
        subst hA hcc
        obtain ⟨bw, ow, cw, hvw, hbw2, hni, f0⟩ := (HOP.out.2.2.2.2.1.ext HE.out.below).val hn
        injection hvw with hA _ hcc
        subst hA hcc
        have HSD := As.mk (r3Sound_any _ d wr (hrd.mv (Stays.any _ _)))
        have hdlen := hrd.len
        have HRD := As.mk hrd
        have HD := As.mk hd
        have HNN := As.mk hn
        clear hd hn hrd
        cases hzs : zsound d with
        | false =>
          have HNF : As (fitsL ws ds = false) := ⟨fitsL_no HNN.out HD.out (by unfold fitsZ; rw [hzs]; rfl)⟩
          rw [hzs] at HSD
          clear hzs
          go_wp2_with fail
          refine HSD.out.mono ?_
          rintro e w2 ⟨rfl, hE2⟩
          have HE2 := As.mk (HE.out.trans hE2)
          clear hE2
          go_wp2_with fail
          go_ret3
          exact RStepPost.misfit HNF.out HE2.out
        | true =>
          rw [hzs] at HSD
          have HZS := As.mk hzs
          clear hzs
          go_wp2_with fail
          refine HSD.out.mono ?_
          rintro e w2 ⟨rfl, hE2⟩
          have HE2 := As.mk (HE.out.trans hE2)
          have c13 := hE2.cell c13
          have c14 := hE2.cell c14
          have c16 := hE2.cell c16
          have e0 := hE2.cell e0
          have f0 := hE2.cell f0
          have HRD2 := As.mk (HRD.out.ext hE2.below)
          clear hE2 HSD
          go_wp2_with fail
          generalize w2 = wo at *
          go_loopg [4, 5, 6, 8] d.length (fun g _ _ _ s8 wr => ∃ k : Nat, k ≤ d.length ∧ d.length - k ≤ g ∧ s8 = .int .i64 k ∧ As (Ext wo wr) ∧ As (∀ x ∈ d.take k, (x.row.length : Int) = n))
          case atStart => exact ⟨0, by omega, by omega, by go_num, ⟨Ext.refl _⟩, ⟨fun x hx => by cases hx⟩⟩
          case round =>
            obtain ⟨k, hk, hgk, rfl, HEK, HROW⟩ := hrel
            have c13 := HEK.out.cell c13
            have e0 := HEK.out.cell e0
            have f0 := HEK.out.cell f0
            by_cases hkl : k < d.length
            · have hklz : (k : Int) < (d.length : Int) := by omega
              obtain ⟨x, hx⟩ : ∃ x, d[k]? = some x := ⟨_, List.getElem?_eq_getElem hkl⟩
              obtain ⟨bx, ox, cx, Ax, dx, hvx, hbx, hxw, hrx, g0, g1⟩ := RdZ.ent (HRD2.out.ext HEK.out.below) hx
              injection hvx with hA _ hcc
              subst hA
              have HX := As.mk hx
              clear hx hcc hrx g1
              by_cases hlen : (x.row.length : Int) = n
              · have hlenz : ((x.row.length : Int) != n) = false := by simpa using hlen
                have HL2 := As.mk hlen
                clear hlen
                go_wp2_with fail
                go_quiet (fail)
                go_wp2_with fail
                go_roundg (d.length - (k + 1))
                case measure => omega
                case rel => exact ⟨k + 1, by omega, by omega, by go_num, ⟨HEK.out.trans (Ext.drewN (Ext.refl _) _)⟩, ⟨fun y hy => by
                  rw [take_snoc HX.out] at hy
                  rcases List.mem_append.1 hy with hy | hy
                  · exact HROW.out y hy
                  · rw [List.mem_singleton.1 hy]; exact HL2.out⟩⟩
              · have hlenz : ((x.row.length : Int) != n) = true := by simpa using hlen
                have HNF : As (fitsL ws ds = false) := ⟨fitsL_no HNN.out HD.out (by
                  unfold fitsZ wideZ
                  rw [List.any_eq_true.2 ⟨x, List.mem_of_getElem? HX.out, by simpa using hlen⟩]
                  simp)⟩
                have HEE := As.mk (HE2.out.trans HEK.out)
                clear hlen
                go_wp2_with fail
                go_quiet (fail)
                go_wp2_with fail
                go_ret3
                exact RStepPost.misfit HNF.out (HEE.out.trans (Ext.drewN (Ext.refl _) _))
            · have hklz : ¬ (k : Int) < (d.length : Int) := by omega
              obtain rfl : k = d.length := by omega
              rw [List.take_length] at HROW
              have HFD := As.mk (fits_of HZS.out HROW.out)
              have HEE := As.mk (HE2.out.trans HEK.out)
              go_wp2_with fail
              go_roundg (ws.length - (i + 1))
              case measure => omega
              case rel => exact ⟨i + 1, by omega, by omega, by go_num, HEE, ⟨fun j n' d' hj h1 h2 => by
                by_cases e : j = i
                · subst e
                  rw [HNN.out] at h1; rw [HD.out] at h2
                  injection h1 with h1; injection h2 with h2
                  subst h1 h2
                  exact HFD.out
                · exact HF.out j n' d' (by omega) h1 h2⟩⟩
      · have hltz : ¬ (i : Int) < (ds.length : Int) := by have := HDW.out; omega
        have HFL : As (fitsL ws ds = true) := ⟨fitsL_yes HDW.out fun j n d h1 h2 => HF.out j n d (by have := (List.getElem?_eq_some_iff.1 h1).1; omega) h1 h2⟩
        clear HF c13 c14
        by_cases hbz : broken = 0
        · subst hbz
          obtain ⟨hn, c13, c14, c15, c16, cf⟩ := (HOP.out.ext HE.out.below).cells
          clear hn cf c15
          have HOP1 := As.mk (HOP.out.ext HE.out.below)
          have HW1 := As.mk (Wrote.of (P := RW ub gb) HE.out.below)
          have HBW1 : As (w.heap.size ≤ wr.heap.size) := ⟨HE.out.size⟩
          have HR0 := As.mk (OwnL.made 2 (ERes (wr.alloc (.cells #[] 103)) EBk) 103 wr w.heap.size #[] 0 HBW1.out (by decide) rfl)
          generalize wr = wo at *
          clear c13 c14
          go_wp2_with fail
          clear c16 hltz
          go_loopg [9, 10, 11, 12] ws.length (fun g s9 s10 _ _ wr => ∃ (i : Nat) (bs : List (List GE)), i ≤ ws.length ∧ ws.length - i ≤ g ∧ s10 = .int .i64 i ∧ As (HalfW ws bags ds bs i) ∧ As (ROpV base ub gb V S G vc sc gc wr [.int .i64 op, .int .i64 m1, .int .i64 m2, .int .i64 nk, .string name, .bool anti, .slice A1 l1 c1, .slice A2 l2 c2, .slice A3 l3 c3, .slice A4 l4 c4, .slice A5 l5 c5, .slice A6 l6 c6, .slice A7 l7 c7] ws bs s 0) ∧ As (Wrote (RW ub gb) w wr) ∧ As (OwnL 2 (ERes wr EBk) 103 wr w.heap.size s9 (bs.take i)))
          case atStart => exact ⟨0, bags, by omega, by omega, by go_num, ⟨HalfW.start _ _ _⟩, ⟨HOP1.out.ext (Ext.alloc (Ext.refl _) _).below⟩, ⟨HW1.out.trans (Wrote.of (Ext.alloc (Ext.refl _) _).below)⟩, HR0⟩
          case round =>
            clear HOP1 HW1 HR0
            obtain ⟨i, bs, hi, hg, rfl, HH, HOB, HWW, HKS⟩ := hrel
            by_cases hlt : i < ws.length
            · have hltz : (i : Int) < (ds.length : Int) := by have := HDW.out; omega
              obtain ⟨d, hd⟩ : ∃ d, ds[i]? = some d := ⟨_, List.getElem?_eq_getElem (by have := HDW.out; omega)⟩
              obtain ⟨n, hn⟩ : ∃ n, ws[i]? = some n := ⟨_, List.getElem?_eq_getElem hlt⟩
              obtain ⟨z, hz0⟩ : ∃ z, bags[i]? = some z := ⟨_, List.getElem?_eq_getElem (by omega)⟩
              have hz : bs[i]? = some z := by rw [HH.out.old i (Nat.le_refl _)]; exact hz0
              have HVW := As.mk (HWW.out.low_rd HOP.out HV.out HBW.out.1 HBW.out.2)
              obtain ⟨bi, oi, ci, Ad, cd, hvi, hbi, hrd, e0⟩ := RdD.delta HVW.out hd
              injection hvi with hA _ hcc
              subst hA hcc
              obtain ⟨Az, cz, hrz, b0, bf, rfl⟩ := HOB.out.bag hz
              obtain ⟨hnn, c13, c14, c15, c16, cf⟩ := HOB.out.cells
              clear hnn c13 c15 c16 cf
              have hfd := fits_at (fitsL_at HFL.out hn hd)
              have HBZ := As.mk (HBG.out i z n hz0 hn)
              have HADD : As (∀ W, Below wr.heap.size wr W → Calls Tryz.prog 46 #[.slice Az z.length cz, .slice Ad d.length cd] W (AddShape z d W)) := As.mk (fun W (hB : Below wr.heap.size wr W) => (r3Add_any (.slice Az z.length cz) (.slice Ad d.length cd) z d W ((hrz.mv (Stays.any _ _)).ext hB) ((hrd.mv (Stays.any _ _)).ext hB) (HLEN.out z (List.mem_of_getElem? hz0) d (List.mem_of_getElem? hd))).mono fun e w' h => AddPost.shape h HBZ.out.sound hfd.1)
              have HNEXT := As.mk (fun y => HH.out.next (y := y) hn hz0 hd)
              have HROWS := As.mk (fun (y : List GE) (hm : Made (z ++ d) y) => made_rows hm HBZ.out.len hfd.2)
              have hil := (List.getElem?_eq_some_iff.1 hz).1
              clear hz hz0 hn hd hrd hrz hfd hbi
              go_wp2_with fail
              go_region_held3 (fun w' => w'.cell? ⟨ub, 14, none⟩ = some (.slice (some ⟨gb, 0, none⟩) ws.length gc) ∧ w'.cell? ⟨gb, i, none⟩ = some (.slice Az z.length cz) ∧ w'.cell? ⟨bi, oi + i, none⟩ = some (.slice Ad d.length cd)) (first | go_keep | exact ⟨k0, k1, k2⟩) ((go_at_call 46; (with_reducible refine (HADD.out _ (by first | exact Below.refl _ _ | exact (Ext.drew (Ext.refl _)).below)).mono ?_); rintro e w2 ⟨P2, n2, d2, q, y, rfl, hB2', hy⟩; have hB2 : Below wr.heap.size wr w2 := (by first | exact hB2' | exact (Ext.drew (Ext.refl wr)).below.trans hB2'); clear hB2'; have k0 := bc hB2 c14; have k1 := bc hB2 b0; have k2 := bc hB2 e0))
              have HW2 := As.mk (HWW.out.trans (Wrote.of hB2))
              rcases hy with hq | ⟨rfl, rfl, hm, hry⟩
              · have hqz : (q != 0) = true := by simpa using hq
                clear hB2 k0 k1 k2 c14 b0 e0
                go_wp2_with fail
                go_ret3
                exact RStepPost.live HFL.out ⟨HW2.out, .inl rfl⟩
              · have HBAG := As.mk (r8Bag_any (.slice P2 y.length d2) y w2 hry.any)
                have HM := As.mk hm
                have HYB := As.mk hry.ebk
                have HOB2 := As.mk (HOB.out.ext hB2)
                have HKS2 := As.mk ((HKS.out.below hB2).imp fun _ _ h => ERes.mv h (Stays.below hB2 _))
                clear hm hry hB2 k0 k1 k2 c14 b0 e0 bf HKS HOB HWW HVW
                cases hbg : bagW y with
                | false =>
                  rw [hbg] at HBAG
                  clear hbg
                  go_wp2_with fail
                  refine HBAG.out.mono ?_
                  rintro e w3 ⟨rfl, hE3⟩
                  have HW3 := As.mk (HW2.out.trans (Wrote.of hE3.below))
                  clear hE3
                  go_wp2_with fail
                  go_ret3
                  exact RStepPost.live HFL.out ⟨HW3.out, .inl rfl⟩
                | true =>
                  rw [hbg] at HBAG
                  have HRB : As (RBag n y) := ⟨⟨HM.out.ok, HROWS.out y HM.out, bagW_at hbg⟩⟩
                  clear hbg
                  go_wp2_with fail
                  refine HBAG.out.mono ?_
                  rintro e w3 ⟨rfl, hE3⟩
                  have HW3 := As.mk (HW2.out.trans (Wrote.of hE3.below))
                  have HOB3 := As.mk (HOB2.out.ext hE3.below)
                  have HKS3 := As.mk ((HKS2.out.ext hE3).imp fun _ _ h => ERes.mv h (Stays.below hE3.below _))
                  have HYB3 := As.mk (HYB.out.ext hE3.below)
                  obtain ⟨zo, hzo⟩ : ∃ zo, bs[i]? = some zo := ⟨_, List.getElem?_eq_getElem hil⟩
                  obtain ⟨Az3, cz3, _, b0, bf, _⟩ := HOB3.out.bag hzo
                  obtain ⟨hnn, c13, c14, c15, c16, cf⟩ := HOB3.out.cells
                  have HPUT := As.mk (HOB3.out.put (i := i) hlt HYB3.out)
                  obtain ⟨_, cg, hcg⟩ := HOB3.out.bagsAt (by omega)
                  have HW4 := As.mk (HW3.out.set (p := ⟨gb, i, none⟩) (.inr rfl) (.slice P2 y.length d2))
                  have hst := set_typed (i := i) (u := .slice P2 y.length d2) hcg [96, 66] (by decide)
                  have HKS4 := As.mk ((HKS3.out.held (w' := w3.setCell ⟨gb, i, none⟩ (.slice P2 y.length d2)) fun k c hk hh => by rw [heap_setCell_other _ ⟨gb, i, none⟩ k _ (by rintro rfl; exact tags_ne hcg hh (by decide))]; exact hh).imp fun _ _ h => ERes.mv h hst)
                  have HYB4 := As.mk (HYB3.out.mv hst)
                  have HBZ4 : As (w.heap.size ≤ (w3.setCell ⟨gb, i, none⟩ (.slice P2 y.length d2)).heap.size) := ⟨HW4.out.size⟩
                  have HLT4 : As ((bs.take i).length < 4294967296) := ⟨by rw [List.length_take]; omega⟩
                  have HTS := As.mk (take_set_snoc hil y)
                  have HNX := As.mk (HNEXT.out y HM.out HRB.out)
                  clear hnn c13 c15 c16 cf hcg hst hzo hE3 HOB3 HKS3 HYB3 HW3 HW2 HOB2 HKS2 HYB HBAG HADD
                  go_wp2_with (at_builtin; go_loud (refine OwnL.append (w0 := w3.setCell ⟨gb, i, none⟩ (.slice P2 y.length d2)) (W := w3.setCell ⟨gb, i, none⟩ (.slice P2 y.length d2)) w.heap.size rfl (.tmp 112) (.tmp 115) 101 103 _ 2 32 rfl Tryz.underlying101 info_res rfl (by decide) (by decide) _ (bs.take i) y [.slice P2 y.length d2, .int .i64 0] rfl (by go_simp) (E := ERes (w3.setCell ⟨gb, i, none⟩ (.slice P2 y.length d2)) EBk) ⟨_, rfl, HYB4.out⟩ rfl (by simp [Value.oneCell']) HKS4.out (Below.refl _ _) HBZ4.out HLT4.out rfl ?_); intro v1 w5 hown hb' hg' hat; have HO5 := As.mk (hown.imp fun _ _ h => ERes.mv h (HKS4.out.rowStays hg' (fun k h => by have := h.2; revert this; decide))); have HOB5 := As.mk (HPUT.out.grown HKS4.out hg'); have HW5 := As.mk (HW4.out.grown hg' fun g h => (HKS4.out.lt g h).1); clear hown hb' hg' hat)
                  go_roundg (ws.length - (i + 1))
                  case measure => omega
                  case rel => exact ⟨i + 1, bs.set i y, by omega, by omega, by go_num, HNX, HOB5, HW5, ⟨by rw [HTS.out]; exact HO5.out⟩⟩
            · have hltz : ¬ (i : Int) < (ds.length : Int) := by have := HDW.out; omega
              obtain rfl : i = ws.length := by omega
              have HST := As.mk (HH.out.done (Nat.le_refl _))
              have hbsl : bs.length = ws.length := by rw [HH.out.len]; exact hbl
              rw [← hbsl, List.take_length] at HKS
              have HKR := As.mk (RdL.move (HKS.out.rd (ok := AnyB) fun _ _ => trivial) (fun _ _ e => e) (Stays.any _ _))
              obtain ⟨PK, ck, rfl, _⟩ := HKR.out.shape
              obtain ⟨hnn, c13, c14, c15, c16, cf⟩ := HOB.out.cells
              have k0 := hnn 0 _ rfl
              have k1 := hnn 1 _ rfl
              have k2 := hnn 2 _ rfl
              have k3 := hnn 3 _ rfl
              have k4 := hnn 4 _ rfl
              have k5 := hnn 5 _ rfl
              have k6 := hnn 6 _ rfl
              have k7 := hnn 7 _ rfl
              have k8 := hnn 8 _ rfl
              have k9 := hnn 9 _ rfl
              have k10 := hnn 10 _ rfl
              have k11 := hnn 11 _ rfl
              have k12 := hnn 12 _ rfl
              clear hnn HH
              have hubl : ub < wr.heap.size := (Array.getElem?_eq_some_iff.1 HOB.out.2.2.2.1).1
              generalize wr = wk at *
              match bs, hbsl, HST, HKS, HKR, HOB with
              | [], hbsl, HST, HKS, HKR, HOB => exact absurd HL2.out (by have : ws.length = 0 := hbsl.symm; omega)
              | [z0], hbsl, HST, HKS, HKR, HOB => exact absurd HL2.out (by have : ws.length = 1 := hbsl.symm; omega)
              | z0 :: z1 :: zs, hbsl, HST, HKS, HKR, HOB =>
                have hop := H15.out
                obtain ⟨bk, ok, ck', hvk, hbk, cs0, _, ⟨u0, rfl, hr0⟩, _, hc0⟩ := HKR.out.at (j := 0) rfl
                obtain ⟨bk', ok', ck'', hvk', _, cs1, _, ⟨u1, rfl, hr1⟩, _, hc1⟩ := HKR.out.at (j := 1) rfl
                injection hvk with hA _ hcc
                subst hA hcc
                injection hvk' with hA _ hcc
                injection hA with hA
                injection hA with hA1 hA2 _
                subst hA1 hA2 hcc
                obtain ⟨B0, q0, rfl, _⟩ := hr0.shape
                obtain ⟨B1, q1, rfl, _⟩ := hr1.shape
                have x00 := hc0 0 _ rfl
                have x01 := hc0 1 _ rfl
                have x10 := hc1 0 _ rfl
                have x11 := hc1 1 _ rfl
                simp only [Nat.add_zero, Nat.zero_mul, Nat.one_mul] at x00 x01 x10 x11
                obtain ⟨nn, hnn⟩ : ∃ nn, ws[1]? = some nn := ⟨_, List.getElem?_eq_getElem (by have := HL2.out; omega)⟩
                obtain ⟨bw, ow, cw, hvw, hbw2, hni, f1⟩ := HOB.out.2.2.2.2.1.val hnn
                injection hvw with hA _ hcc
                subst hA hcc
                have HNN := As.mk hnn
                have HR0' := As.mk hr0
                have HR1' := As.mk hr1
                have hzl : (1 : Int) < ((z0 :: z1 :: zs).length : Int) := by simp; omega
                have hzl0 : (0 : Int) < ((z0 :: z1 :: zs).length : Int) := by simp; omega
                have HBL := As.mk hbsl
                have hl2 := HL2.out
                clear hc0 hc1 hr0 hr1 hnn hbsl
                have HG0 : As ((z0 :: z1 :: zs).getD 0 [] = z0) := ⟨rfl⟩
                have HG1 : As ((z0 :: z1 :: zs).getD 1 [] = z1) := ⟨rfl⟩
                generalize z0 :: z1 :: zs = bs at *
                go_wp2_with fail
                have HRBS : As (∀ (i : Nat) (z : List GE) (n : Int), bs[i]? = some z → ws[i]? = some n → RBag n z) := ⟨fun i z n h1 h2 => by
                  have hiw := (List.getElem?_eq_some_iff.1 h2).1
                  obtain ⟨zb, hzb⟩ : ∃ zb, bags[i]? = some zb := ⟨_, List.getElem?_eq_getElem (by omega)⟩
                  obtain ⟨d, hd⟩ : ∃ d, ds[i]? = some d := ⟨_, List.getElem?_eq_getElem (by have := HDW.out; omega)⟩
                  exact (HST.out.at' i n zb d z h2 hzb hd h1).2⟩
                have hwb : ws.getD 1 0 = nn := by rw [List.getD_eq_getElem?_getD, HNN.out]; rfl
                obtain ⟨W1, hW1⟩ : ∃ W1, W1 = (wk.alloc (.cells #[.slice B0 z0.length q0, .int .i64 0] 103)).alloc (.cells #[.slice B1 z1.length q1, .int .i64 0] 103) := ⟨_, rfl⟩
                rw [← hW1]
                have hE1 : Ext wk W1 := hW1 ▸ Ext.alloc (Ext.alloc (Ext.refl wk) _) _
                have hs1 : W1.heap.size = wk.heap.size + 2 := by rw [hW1]; simp
                have hra : W1.heap[wk.heap.size]? = some (.cells #[.slice B0 z0.length q0, .int .i64 0] 103 (0, 0)) := by
                  rw [hW1, (Ext.alloc (Ext.refl (wk.alloc (.cells #[.slice B0 z0.length q0, .int .i64 0] 103))) _).below.block _ (by simp)]
                  exact heap_alloc_new wk _
                have hrb : W1.heap[wk.heap.size + 1]? = some (.cells #[.slice B1 z1.length q1, .int .i64 0] 103 (0, 0)) := by
                  rw [hW1]
                  have := heap_alloc_new (wk.alloc (.cells #[.slice B0 z0.length q0, .int .i64 0] 103)) (.cells #[.slice B1 z1.length q1, .int .i64 0] 103)
                  simpa using this
                have k0 := hE1.cell k0
                have k1 := hE1.cell k1
                have k2 := hE1.cell k2
                have k3 := hE1.cell k3
                have k4 := hE1.cell k4
                have k5 := hE1.cell k5
                have k6 := hE1.cell k6
                have k7 := hE1.cell k7
                have k8 := hE1.cell k8
                have k9 := hE1.cell k9
                have k10 := hE1.cell k10
                have k11 := hE1.cell k11
                have k12 := hE1.cell k12
                have ha0 : W1.cell? ⟨wk.heap.size, 0, none⟩ = some (.slice B0 z0.length q0) := by rw [Lib.cell_of_heap hra]; rfl
                have ha1 : W1.cell? ⟨wk.heap.size, 1, none⟩ = some (.int .i64 0) := by rw [Lib.cell_of_heap hra]; rfl
                have hb0 : W1.cell? ⟨wk.heap.size + 1, 0, none⟩ = some (.slice B1 z1.length q1) := by rw [Lib.cell_of_heap hrb]; rfl
                have hb1 : W1.cell? ⟨wk.heap.size + 1, 1, none⟩ = some (.int .i64 0) := by rw [Lib.cell_of_heap hrb]; rfl
                have HW1 := As.mk (HWW.out.trans (Wrote.of hE1.below))
                have HOB1 := As.mk (HOB.out.ext hE1.below)
                have HNODE : As (∀ W, Below W1.heap.size W1 W → Calls Tryz.prog 48 #[.agg #[.slice none 0 0, .slice none 0 0, .int .i64 1], .agg #[.int .i64 op, .int .i64 m1, .int .i64 m2, .int .i64 nk, .string name, .bool anti, .slice A1 l1 c1, .slice A2 l2 c2, .slice A3 l3 c3, .slice A4 l4 c4, .slice A5 l5 c5, .slice A6 l6 c6, .slice A7 l7 c7], .agg #[.slice B0 z0.length q0, .int .i64 0], .agg #[.slice B1 z1.length q1, .int .i64 0], .slice none 0 0, .int .i64 nn] W (NodePost N bs W)) := ⟨fun W hB => by
                  have h := HND.out W bs B0 B1 z0.length z1.length q0 q1 (.slice none 0 0) (HW1.out.trans (Wrote.of hB)) HFL.out HST.out HBL.out HRBS.out (by rw [HG0.out]; exact ((HR0'.out.mv (Stays.any _ _)).ext hE1.below).ext hB) (by rw [HG1.out]; exact ((HR1'.out.mv (Stays.any _ _)).ext hE1.below).ext hB) (fun _ => rfl) (fun e => by rw [e] at hop; exact absurd hop (by decide))
                  rw [hwb] at h
                  exact h⟩
                clear hra hrb hwb HR0' HR1' HG0 HG1 hE1 hW1 HOB HWW HKS HKR x00 x01 x10 x11 f1
                have hne1 : ub ≠ W1.heap.size := by omega
                have hne2 : wk.heap.size ≠ W1.heap.size := by omega
                have hne3 : wk.heap.size + 1 ≠ W1.heap.size := by omega
                clear hs1
                generalize wk.heap.size = kb at *
                go_wp2_with fail
                go_region_held3 (fun w' => w'.cell? ⟨ub, 0, none⟩ = some (.int .i64 op) ∧ w'.cell? ⟨ub, 1, none⟩ = some (.int .i64 m1) ∧ w'.cell? ⟨ub, 2, none⟩ = some (.int .i64 m2) ∧ w'.cell? ⟨ub, 3, none⟩ = some (.int .i64 nk) ∧ w'.cell? ⟨ub, 4, none⟩ = some (.string name) ∧ w'.cell? ⟨ub, 5, none⟩ = some (.bool anti) ∧ w'.cell? ⟨ub, 6, none⟩ = some (.slice A1 l1 c1) ∧ w'.cell? ⟨ub, 7, none⟩ = some (.slice A2 l2 c2) ∧ w'.cell? ⟨ub, 8, none⟩ = some (.slice A3 l3 c3) ∧ w'.cell? ⟨ub, 9, none⟩ = some (.slice A4 l4 c4) ∧ w'.cell? ⟨ub, 10, none⟩ = some (.slice A5 l5 c5) ∧ w'.cell? ⟨ub, 11, none⟩ = some (.slice A6 l6 c6) ∧ w'.cell? ⟨ub, 12, none⟩ = some (.slice A7 l7 c7) ∧ w'.cell? ⟨kb, 0, none⟩ = some (.slice B0 z0.length q0) ∧ w'.cell? ⟨kb, 1, none⟩ = some (.int .i64 0) ∧ w'.cell? ⟨kb + 1, 0, none⟩ = some (.slice B1 z1.length q1) ∧ w'.cell? ⟨kb + 1, 1, none⟩ = some (.int .i64 0)) (first | go_keep | ((try dsimp only); (repeat' apply And.intro) <;> first | exact bc hBn (by assumption) | exact bc (hBn.trans ((Ext.alloc (Ext.refl w3) _).below.mono hBn.size)) (by assumption) | exact cell_set2 (by assumption) (bc hBn (by assumption)) | go_keep)) ((go_at_call 48; (with_reducible refine (HNODE.out _ (Ext.below (by with_reducible (repeat first | exact Ext.refl _ | assumption | apply Ext.alloc | apply Ext.drewN | apply Ext.drew | apply Ext.grow | refine Ext.trans ?_ (by assumption))))).mono ?_); rintro e w3 ⟨hBn', P3, d3, q, y, rfl, hN, hy0, hy1⟩; have HNN2 := As.mk hN; have HY0 := As.mk hy0; clear hN hy0 hy1; have hBn := below_via (w := W1) (by with_reducible (repeat first | exact Ext.refl _ | assumption | apply Ext.alloc | apply Ext.drewN | apply Ext.drew | apply Ext.grow | refine Ext.trans ?_ (by assumption))) hBn'; (first | (have hrx := res_keepA (W1 := W1) hBn'; have HRX := As.mk hrx; obtain ⟨rx0, rx1, _⟩ := cells2 hrx; have rz0 := Lib.frozen_of_heap hrx 0; have rz1 := Lib.frozen_of_heap hrx 1; clear hrx) | (have hrx := res_keepB (W1 := W1) hBn'; have HRX := As.mk hrx; obtain ⟨rx0, rx1, _⟩ := cells2 hrx; have rz0 := Lib.frozen_of_heap hrx 0; have rz1 := Lib.frozen_of_heap hrx 1; clear hrx) | (have hrx := res_keepC (W1 := W1) hBn'; have HRX := As.mk hrx; obtain ⟨rx0, rx1, _⟩ := cells2 hrx; have rz0 := Lib.frozen_of_heap hrx 0; have rz1 := Lib.frozen_of_heap hrx 1; clear hrx) | skip); clear hBn'))
                all_goals
                  clear k0 k1 k2 k3 k4 k5 k6 k7 k8 k9 k10 k11 k12 ha0 ha1 hb0 hb1
                  (first
                    | (have HAF := As.mk (AftN.two HOB1.out HW1.out hBn HRX.out (v := .slice P3 y.length d3) (q := q) (y := y) (fun h => (HY0.out h).1))
                       generalize (w3.setCell ⟨W1.heap.size, 0, none⟩ (.slice P3 y.length d3)).setCell ⟨W1.heap.size, 1, none⟩ (.int .i64 q) = W4 at *
                       generalize W1.heap.size = rb at *)
                    | (have HAF := As.mk (AftN.one HOB1.out HW1.out hBn (v := .slice P3 y.length d3) (q := q) (y := y) (fun h => (HY0.out h).1))
                       generalize w3.alloc (.cells #[.slice P3 y.length d3, .int .i64 q] 103) = W4 at *
                       generalize w3.heap.size = rb at *))
                  obtain ⟨hrb, hob, hwr, hy4⟩ := HAF.out
                  obtain ⟨r0, r1, _⟩ := cells2 hrb
                  have hrne : rb ≠ ub := by rintro rfl; exact tags_ne hrb hob.2.2.2.1 (by decide)
                  obtain ⟨hnn, c13, c14, c15, c16, cf⟩ := hob.cells
                  have cf15 := cf 15
                  have cf16 := cf 16
                  have HWR := As.mk hwr
                  have HOB4 := As.mk hob
                  have HY4 := As.mk hy4
                  have HRNE := As.mk hrne
                  have HRB4 := As.mk hrb
                  clear HAF hrb hob hwr hy4 hnn cf c13 c14 HW1 HOB1 HNODE
                  by_cases hq : q = 0
                  · subst hq
                    obtain ⟨hyr, ⟨ny, hyb⟩, hyl⟩ := HY0.out rfl
                    obtain ⟨ns, hsb⟩ := HS.out
                    have HYR := As.mk (HY4.out rfl)
                    have HSR := As.mk HOB4.out.2.2.2.2.2.2.2
                    have HSUB : As (∀ W, Below W4.heap.size W4 W → Calls Tryz.prog 49 #[.slice P3 y.length d3, .slice S s.length sc] W (SubPost y s W)) := ⟨fun W hB => r3Sub_ok _ _ y s W ((HYR.out.mv (Stays.any _ _)).ext hB) ((HSR.out.mv (Stays.any _ _)).ext hB) hyb.sound hsb.ok hsb.fair (by have := HSL.out; omega) (over_sub hyb hsb)⟩
                    clear hyr hyb hyl hsb
                    go_wp2_with fail
                    go_region_held3 (fun w' => w'.cell? ⟨rb, 0, none⟩ = some (.slice P3 y.length d3) ∧ w'.cell? ⟨ub, 15, none⟩ = some (.slice S s.length sc)) (first | go_keep | exact ⟨bc hB5 (by assumption), bc hB5 (by assumption)⟩) ((go_at_call 49; (with_reducible refine (HSUB.out _ (Ext.below (by with_reducible (repeat first | exact Ext.refl _ | assumption | apply Ext.alloc | apply Ext.drewN | apply Ext.drew | apply Ext.grow | refine Ext.trans ?_ (by assumption))))).mono ?_); rintro e w5 ⟨P5, d5, dd, rfl, hmd, hrd, hB5'⟩; have HMD := As.mk hmd; have HRD := As.mk hrd.ebk; have hB5 := below_via (w := W4) (by with_reducible (repeat first | exact Ext.refl _ | assumption | apply Ext.alloc | apply Ext.drewN | apply Ext.drew | apply Ext.grow | refine Ext.trans ?_ (by assumption))) hB5'; clear hmd hrd hB5'))
                    all_goals
                      have g0 := bc hB5 r0
                      have g15 := bc hB5 c15
                      have gf15 := (hB5.frozen (p := ⟨ub, 15, none⟩) (cell_lt c15)).trans cf15
                      have HOB5 := As.mk (HOB4.out.ext hB5)
                      have HWR5 := As.mk (HWR.out.trans (Wrote.of hB5))
                      have HYR5 := As.mk (HYR.out.ext hB5)
                      clear hB5 HSUB r0 r1 c15 c16 cf15 cf16 HOB4 HWR HYR HSR
                      go_wp2_with fail
                      go_ret3
                      exact RStepPost.live HFL.out ⟨HWR5.out.set (p := ⟨ub, 15, none⟩) (.inl rfl) _, .inr ⟨bs, 0, y, HST.out, HNN2.out, .inr ⟨rfl, _, _, dd, rfl, HMD.out, HRD.out.mv (set_typed HOB5.out.2.2.2.1 _ (by decide)), _, _, _, _, _, _, HOB5.out.res HYR5.out⟩⟩⟩
                  · have hqz : (q != 0) = true := by simpa using hq
                    have HQ := As.mk hq
                    have r1' : (W4.setCell ⟨ub, 16, none⟩ (.int .i64 q)).cell? ⟨rb, 1, none⟩ = some (.int .i64 q) := by
                      rw [World.cell?_of_block (heap_setCell_other _ ⟨ub, 16, none⟩ rb _ hrne)]; exact r1
                    clear hq
                    go_wp2_with fail
                    go_quiet (fail)
                    go_wp2_with fail
                    go_ret3
                    exact RStepPost.live HFL.out ⟨(HWR.out.set (p := ⟨ub, 16, none⟩) (.inl rfl) _).trans (Wrote.of (Ext.drewN (Ext.refl _) _).below), .inr ⟨bs, q, y, HST.out, HNN2.out, .inl ⟨HQ.out, rfl, _, _, _, _, _, _, (HOB4.out.brk q).ext (Ext.drewN (Ext.refl _) _).below⟩⟩⟩
        · have hbzz : (broken != 0) = true := by simpa using hbz
          have HBZ := As.mk hbz
          clear hbz
          go_wp2_with fail
          go_quiet (fail)
          go_wp2_with fail
          go_ret3
          exact RStepPost.broken HFL.out HBZ.out (HE.out.trans (Ext.drewN (Ext.refl _) _))
  · have HNF : As (fitsL ws ds = false) := ⟨fitsL_len hdw⟩
    have hdwz : ((ds.length : Int) != (ws.length : Int)) = true := by simp; omega
    obtain ⟨hn, c13, c14, c15, c16, cf⟩ := HOP.out.cells
    clear hn c15 cf c16 c13
    go_enter Tryz.func23, Tryz.ntmps23
    go_wp2_with fail
    go_ret3
    exact RStepPost.misfit HNF.out (Ext.refl _)
end Go.Proofs.YtflckpfpgpfjlaaGreatDoor
