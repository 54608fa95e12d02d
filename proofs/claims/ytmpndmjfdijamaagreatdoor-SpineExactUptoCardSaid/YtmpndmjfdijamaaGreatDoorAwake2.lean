/- Entries of two numbers: what the plain functions say of those that 'awake' plays with. The walk of 'awake': what the document fixes by number. The walk of 'awake'. -/
import Derived.Test.YtmpndmjfdijamaaGreatDoorTold
set_option linter.unusedSimpArgs false
set_option linter.unusedVariables false
namespace Go.Proofs.YtmpndmjfdijamaaGreatDoor
open Go.RowKit Go.Sort
def iv (n : Int) : GV := ⟨2, n, 0, ⟨#[]⟩⟩
def r2 (a b : Int) : List GV := [iv a, iv b]
def e2 (a b w : Int) : GE := ⟨r2 a b, w⟩
def u2 (a b w : Int) : GI := ⟨encB [iv a], encB (r2 a b), r2 a b, w⟩
theorem iv_sound (n : Int) : vsound (iv n) = true := by simp [vsound, iv, eqGV]
theorem iv_ok {n : Int} (h : i64 n) : (iv n).Ok := ⟨by unfold i64 iv; simp, h, by unfold u64 iv; simp, by show ByteArray.size ⟨#[]⟩ ≤ 9223372036854775807; decide⟩
theorem r1_sound (n : Int) : rsound [iv n] = true := by simp [rsound, iv_sound]
theorem r2_sound (a b : Int) : rsound (r2 a b) = true := by simp [rsound, r2, iv_sound]
theorem encB_ok {r : List GV} (h : rsound r = true) : encB r = ⟨(encR r).toArray⟩ := by unfold encB; rw [if_pos h]
theorem pick_two (a b : Int) : pick (r2 a b) [0] = some [iv a] := by
  unfold pick
  rw [if_pos ⟨r2_sound a b, by decide⟩]
  rfl
theorem itemG_two (a b w : Int) : itemG [0] (e2 a b w) = some (u2 a b w) := by
  unfold itemG
  rw [show pick (e2 a b w).row [0] = some [iv a] from pick_two a b]
  rfl
theorem u2_cmp (a b c d v w : Int) : (u2 a b v).cmp (u2 c d w) = orv (Lib.compareBytes (encR [iv a]) (encR [iv c])) (Lib.compareBytes (encR (r2 a b)) (encR (r2 c d))) := by
  unfold GI.cmp kcmp u2 scmp
  simp only
  rw [encB_ok (r1_sound a), encB_ok (r1_sound c), encB_ok (r2_sound a b), encB_ok (r2_sound c d)]
theorem cmp_15_16 (v w : Int) : (u2 1 5 v).cmp (u2 1 6 w) < 0 := by rw [u2_cmp]; decide +kernel
theorem cmp_16_25 (v w : Int) : (u2 1 6 v).cmp (u2 2 5 w) < 0 := by rw [u2_cmp]; decide +kernel
theorem cmp_15_35 (v w : Int) : (u2 1 5 v).cmp (u2 3 5 w) < 0 := by rw [u2_cmp]; decide +kernel
theorem cmp_25_35 (v w : Int) : (u2 2 5 v).cmp (u2 3 5 w) < 0 := by rw [u2_cmp]; decide +kernel
theorem cmp_15_15 (v w : Int) : (u2 1 5 v).cmp (u2 1 5 w) = 0 := by rw [u2_cmp]; decide +kernel
theorem cmp_16_35 (v w : Int) : (u2 1 6 v).cmp (u2 3 5 w) < 0 := gicmp.lt_trans (cmp_16_25 v 0) (cmp_25_35 0 w)
theorem cmp_15_25 (v w : Int) : (u2 1 5 v).cmp (u2 2 5 w) < 0 := gicmp.lt_trans (cmp_15_16 v 0) (cmp_16_25 0 w)
def z1 : List GE := [e2 1 5 1, e2 1 6 2, e2 2 5 1]
def z2 : List GE := [e2 1 5 (-1), e2 3 5 1]
def y1 : List GI := [u2 1 5 1, u2 1 6 2, u2 2 5 1]
def y2 : List GI := [u2 1 5 (-1), u2 3 5 1]
def y3 : List GI := [u2 1 6 2, u2 2 5 1, u2 3 5 1]
def z3 : List GE := [e2 1 6 2, e2 2 5 1, e2 3 5 1]
theorem rcmp_r2 (a b c d : Int) : rcmp (r2 a b) (r2 c d) = orv (icmp a c) (orv (icmp b d) 0) := by
  rw [rcmp_lex (r2_sound a b) (r2_sound c d)]
  have hv : ∀ x y, vlex (iv x) (iv y) = icmp x y := fun x y => by
    unfold vlex iv
    simp only
    rw [icmp_cmp.refl, icmp_cmp.refl, scmp_cmp.refl]
    have o1 : ∀ x, orv 0 x = x := fun x => by simp [orv]
    rw [o1, o1, o1]
  simp only [r2, rlex, hv]
theorem z1_sound : zsound z1 = true := by
  simp only [zsound, z1, zsound0, entOk, e2, r2_sound, rcmp_r2, fair]
  decide
theorem z2_sound : zsound z2 = true := by
  simp only [zsound, z2, zsound0, entOk, e2, r2_sound, rcmp_r2, fair]
  decide
theorem items1 : itemsL [0] z1 = some y1 := by simp [itemsL, z1, itemG_two, y1]
theorem items2 : itemsL [0] z2 = some y2 := by simp [itemsL, z2, itemG_two, y2]
theorem y1_rise : Rise y1 := by
  refine List.pairwise_cons.2 ⟨?_, List.pairwise_cons.2 ⟨?_, List.pairwise_cons.2 ⟨by simp, List.Pairwise.nil⟩⟩⟩
  · intro u hu; simp at hu; rcases hu with rfl | rfl
    · exact cmp_15_16 _ _
    · exact cmp_15_25 _ _
  · intro u hu; simp at hu; subst hu; exact cmp_16_25 _ _
theorem y2_rise : Rise y2 := by
  refine List.pairwise_cons.2 ⟨?_, List.pairwise_cons.2 ⟨by simp, List.Pairwise.nil⟩⟩
  intro u hu; simp at hu; subst hu; exact cmp_15_35 _ _
theorem y3_rise : Rise y3 := by
  refine List.pairwise_cons.2 ⟨?_, List.pairwise_cons.2 ⟨?_, List.pairwise_cons.2 ⟨by simp, List.Pairwise.nil⟩⟩⟩
  · intro u hu; simp at hu; rcases hu with rfl | rfl
    · exact cmp_16_25 _ _
    · exact cmp_16_35 _ _
  · intro u hu; simp at hu; subst hu; exact cmp_25_35 _ _
theorem w64 {n : Int} (h : i64 n) : wrap64 n = n := wrap64_of h
theorem merge12 : mergeL y1 y2 = y3 := by
  unfold y1 y2 y3
  have h0 : ((u2 1 5 1).add (u2 1 5 (-1))).size = 0 := by show wrap64 (1 + -1) = 0; exact wrap64_of (by unfold i64; omega)
  rw [mergeL, if_neg (by have := cmp_15_15 1 (-1); omega), if_neg (by have := cmp_15_15 1 (-1); omega), if_neg (by simpa using h0)]
  rw [mergeL, if_pos (cmp_16_35 _ _), mergeL, if_pos (cmp_25_35 _ _), mergeL]
/-- Two rising lists of the same items are one. -/
theorem rise_perm : ∀ {a b : List GI}, a.Perm b → Rise a → Rise b → a = b
  | [], b, h, _, _ => h.symm.eq_nil.symm
  | x :: a, [], h, _, _ => h.eq_nil
  | x :: a, y :: b, h, h1, h2 => by
    have e : x = y := by
      have m1 : x ∈ y :: b := h.mem_iff.1 (by simp)
      have m2 : y ∈ x :: a := h.mem_iff.2 (by simp)
      rcases List.mem_cons.1 m1 with m1 | m1
      · exact m1
      · rcases List.mem_cons.1 m2 with m2 | m2
        · exact m2.symm
        · have a1 := h1.head y m2
          have a2 := h2.head x m1
          have a3 := gicmp.flip x y
          omega
    subst e
    rw [rise_perm ((List.perm_cons x).1 h) h1.tail h2.tail]
theorem Rise.ne {z : List GI} (h : Rise z) : z.Pairwise fun u v => u.cmp v ≠ 0 := h.imp fun h => by omega
theorem joins_one {z : List GI} {bs : List (List GI)} (h : Joins [z] bs) : bs = [z] := by
  induction h with
  | refl => rfl
  | step pre x y _ ih =>
    have := congrArg List.length ih
    simp at this
theorem over0 (s : Int) : overW 0 s = false := by simp [overW]
theorem live1 : liveL [] 0 y1 = some 3 := by
  have hw : ∀ k e, weightL [] k e = 0 := weightL_nil
  simp only [y1, liveL, hw, over0, stepN]
  rfl
theorem encB_ne {r s : List GV} (hr : RowOk r) (hs : RowOk s) (h : r ≠ s) : encB r ≠ encB s := fun e => h (encB_inj hr hs e)
theorem live2 : liveL [y1] 3 y2 = some 3 := by
  have h1 : ∀ k e, weightL [y1] k e = wrap64 (lookW y1 k e) := fun k e => by show wrap64 (0 + lookW y1 k e) = _; rw [Int.zero_add]
  have a1 : lookW y1 (u2 1 5 (-1)).key (u2 1 5 (-1)).enc = 1 := lookW_cons_eq (u2 1 5 1) _
  have a2 : lookW y1 (u2 3 5 1).key (u2 3 5 1).enc = 0 := lookW_none (by
    intro x hx
    have hc : x.cmp (u2 3 5 1) < 0 := by
      simp [y1] at hx
      rcases hx with rfl | rfl | rfl
      · exact cmp_15_35 _ _
      · exact cmp_16_35 _ _
      · exact cmp_25_35 _ _
    exact ne_of_lt_cmp hc)
  have b1 : wrap64 1 = 1 := wrap64_of (by unfold i64; omega)
  have b0 : wrap64 0 = 0 := wrap64_of (by unfold i64; omega)
  have b2 : wrap64 (1 + (u2 1 5 (-1)).size) = 0 := by show wrap64 (1 + -1) = 0; exact wrap64_of (by unfold i64; omega)
  have b3 : overW 1 (u2 1 5 (-1)).size = false := by show overW 1 (-1) = false; decide
  have s1 : stepN 3 1 (u2 1 5 (-1)).size = 2 := by unfold stepN; rw [if_neg (by decide), if_pos b2]; rfl
  have s2 : stepN 2 0 (u2 3 5 1).size = 3 := rfl
  unfold y2
  rw [liveL, h1, a1, b1, b3, if_neg (by decide), s1, liveL, h1, a2, b0, over0, if_neg (by decide), s2, liveL]
theorem RdL.lit {α : Type} {sz : Nat} {E : α → List Value → Prop} {w : World} {ok : Blk} (xs : List α) (cs : List Value) (hr : Reps sz E xs cs) (h1 : ∀ u ∈ cs, u.oneCell' = true) (hl : xs.length ≤ 4294967296) (b : Nat) (t : TypeId) (n : Nat) (hn : n = xs.length)
    (hb : w.heap[b]? = some (.cells cs.toArray t (0, 0))) (hok : ok b t) : RdL sz E w ok (.slice (some ⟨b, 0, none⟩) n n) xs := by
  subst hn
  refine ⟨_, xs.length, rfl, Nat.le_refl _, hl, fun _ => ⟨b, 0, _, t, (0, 0), rfl, Okf.soft hok, hb, fun j x hj => ?_⟩⟩
  have hjl := (List.getElem?_eq_some_iff.1 hj).1
  have hb1 : j * sz + sz ≤ cs.length := by rw [hr.1, ← Nat.succ_mul]; exact Nat.mul_le_mul_right _ hjl
  refine ⟨(cs.drop (j * sz)).take sz, by rw [List.length_take, List.length_drop]; omega, hr.2 j x hj, fun u hu => h1 u (List.mem_of_mem_drop (List.mem_of_mem_take hu)), fun i u hu => ?_⟩
  rw [List.getElem?_take] at hu
  split at hu
  · rw [List.getElem?_drop] at hu
    rw [Nat.zero_add]
    simpa using hu
  · cases hu
theorem reps_r2 {a b : Int} (ha : i64 a) (hb : i64 b) : Reps 4 EV (r2 a b) ((iv a).cells ++ (iv b).cells) :=
  ((Reps.nil 4 EV).snoc (x := iv a) ⟨rfl, iv_ok ha⟩ rfl).snoc (x := iv b) ⟨rfl, iv_ok hb⟩ rfl
theorem EE.lit {w : World} {ok : Blk} {v : Value} {r : List GV} {n : Int} (h : RdV w ok v r) (hn : i64 n) : EE w ok ⟨r, n⟩ [v, .int .i64 n] := ⟨v, rfl, hn, h⟩
theorem two_any (a b c : Int) (ha : i64 a) (hb : i64 b) (w : World) : Calls Tryz.prog 29 #[.int .i64 a, .int .i64 b, .int .i64 c] w fun e w' => ∃ g, e = .returned (.agg #[.slice (some ⟨g, 0, none⟩) 2 2, .int .i64 c]) ∧ RdV w' (Fresh w.heap.size [55]) (.slice (some ⟨g, 0, none⟩) 2 2) (r2 a b) ∧ Below w.heap.size w w' := by
  go_enter Tryz.func29, Tryz.ntmps29
  go_wp2
  have hk : ((w.alloc (.cells #[.slice (some ⟨w.heap.size + 1, 0, none⟩) 2 2, .int .i64 c] 47)).alloc (.cells #[.int .i64 2, .int .i64 a, .int .u64 0, .string ⟨#[]⟩, .int .i64 2, .int .i64 b, .int .u64 0, .string ⟨#[]⟩] 55)).heap[w.heap.size]? = some (.cells #[.slice (some ⟨w.heap.size + 1, 0, none⟩) 2 2, .int .i64 c] 47 (0, 0)) :=
    (heap_alloc_old _ _ (by simp)).trans (heap_alloc_new _ _)
  (try simp only [Exit.inBlock, Exit.then])
  refine bodyPost_ret (results_cell_row rfl _ _ w.heap.size 47 _ (0, 0) _ rfl hk Tryz.underlying47 rfl (by kernel_rfl)) rfl ?_
  refine ⟨_, rfl, RdL.lit (r2 a b) ((iv a).cells ++ (iv b).cells) (reps_r2 ha hb) ?_ (by simp [r2]) (w.heap.size + 1) 55 2 rfl (heap_alloc2_new w _ _) ⟨by omega, by simp⟩, ((Below.refl _ _).alloc (Nat.le_refl _) _).alloc (by simp) _⟩
  intro u hu
  rcases List.mem_append.1 hu with hu | hu <;> exact GV.cells_one _ u hu
theorem pairs_ok {xs : List GI} (h : Rise xs) {ys : List GI} (hp : ys.Perm xs) (hs : ys.Pairwise fun x y => ¬ y.cmp x < 0) : ys = xs := rise_perm hp (perm_rise hp h.ne hs) h
theorem put1 {base b : Nat} {w w' : World} {e : Ending} (h : PutPost base b ⟨[0], [], 0⟩ z1 w e w') : e = .returned (.int .i64 0) ∧ SpAt base b w' ⟨[0], [y1], 3⟩ ∧ Mut base b w w' := by
  obtain ⟨hm, h⟩ := h
  rw [if_neg (by rw [z1_sound]; decide)] at h
  simp only [items1, live1] at h
  obtain ⟨he, bs1, bs2, hb, hj, _, hs⟩ := h
  rw [if_neg (by simp [y1])] at hb
  obtain ⟨ys, hp, hso, rfl⟩ := hb
  rw [pairs_ok y1_rise hp hso] at hj
  rw [joins_one hj] at hs
  exact ⟨he, hs, hm⟩
theorem put2 {base b : Nat} {w w' : World} {e : Ending} (h : PutPost base b ⟨[0], [y1], 3⟩ z2 w e w') : e = .returned (.int .i64 0) ∧ (∃ bs3, SpAt base b w' ⟨[0], bs3, 3⟩ ∧ Joins [y1, y2] bs3) ∧ Mut base b w w' := by
  obtain ⟨hm, h⟩ := h
  rw [if_neg (by rw [z2_sound]; decide)] at h
  simp only [items2, live2] at h
  obtain ⟨he, bs1, bs2, hb, hj, _, hs⟩ := h
  rw [if_neg (by simp [y2])] at hb
  obtain ⟨ys, hp, hso, rfl⟩ := hb
  rw [pairs_ok y2_rise hp hso] at hj
  exact ⟨he, ⟨bs2, hs, hj⟩, hm⟩
theorem u2_iok {a b w : Int} (ha : i64 a) (hb : i64 b) : IOk [0] (u2 a b w).key (u2 a b w).enc (u2 a b w).row :=
  ⟨⟨r2_sound a b, by intro x hx; simp [u2, r2] at hx; rcases hx with rfl | rfl <;> first | exact iv_ok ha | exact iv_ok hb⟩, rfl, [iv a], pick_two a b, rfl⟩
theorem y12_fine : Fine [y1, y2] := by
  intro z hz
  simp at hz
  rcases hz with rfl | rfl
  · exact ⟨y1_rise, by intro u hu; simp [y1] at hu; rcases hu with rfl | rfl | rfl <;> exact ⟨by simp [u2], by simp [u2, i64]⟩, by simp [y1]⟩
  · exact ⟨y2_rise, by intro u hu; simp [y2] at hu; rcases hu with rfl | rfl <;> exact ⟨by simp [u2], by simp [u2, i64]⟩, by simp [y2]⟩
theorem y12_row : ∀ z ∈ [y1, y2], ∀ u ∈ z, IOk [0] u.key u.enc u.row := by
  intro z hz u hu
  simp at hz
  rcases hz with rfl | rfl
  · simp [y1] at hu; rcases hu with rfl | rfl | rfl <;> exact u2_iok (by simp [i64]) (by simp [i64])
  · simp [y2] at hu; rcases hu with rfl | rfl <;> exact u2_iok (by simp [i64]) (by simp [i64])
theorem all12 {bs : List (List GI)} (h : Joins [y1, y2] bs) : allL bs = y3 := by
  rw [all_one (h.fine y12_fine).1 y12_fine (h.row y12_row) y12_row (h.fine y12_fine).2]
  show mergeL (mergeL [] y1) y2 = y3
  rw [show mergeL [] y1 = y1 by simp [mergeL], merge12]
theorem z3_sorted : z3.Pairwise fun x y => ¬ rlex y.row x.row < 0 := by
  have h : ∀ a b c d, rlex (r2 a b) (r2 c d) = orv (icmp a c) (orv (icmp b d) 0) := fun a b c d => by rw [← rcmp_lex (r2_sound a b) (r2_sound c d), rcmp_r2]
  simp only [z3, List.pairwise_cons, e2, h]
  decide
theorem told12 {bs : List (List GI)} (h : Joins [y1, y2] bs) {xs : List GE} (hp : xs.Perm ((allL bs).map GI.ent)) (hs : xs.Pairwise fun x y => ¬ rlex y.row x.row < 0) : xs = z3 := by
  have h1 := ents_one (allL_fine (h.fine y12_fine).1).1 (allL_ok bs (h.row y12_row)) hp
  rw [all12 h] at hp
  exact sorted_one hp hs z3_sorted h1
theorem get12 {bs : List (List GI)} (h : Joins [y1, y2] bs) : (getL bs (encB [iv 1])).map GI.ent = [e2 1 6 2] := by
  have hf := (h.fine y12_fine).1
  obtain ⟨g1, g2, g3⟩ := getL_look hf (encB [iv 1])
  obtain ⟨a1, a2, a3⟩ := allL_fine hf
  have hne : ∀ n, i64 n → n ≠ 1 → encB [iv n] ≠ encB [iv 1] := fun n hn h1 => encB_ne ⟨r1_sound n, by intro x hx; simp at hx; subst hx; exact iv_ok hn⟩ ⟨r1_sound 1, by intro x hx; simp at hx; subst hx; exact iv_ok (by simp [i64])⟩ (by simpa [iv] using h1)
  have hm := rise_ext g1 (b := [u2 1 6 2]) (List.pairwise_singleton _ _) g2 (by intro u hu; simp at hu; subst hu; exact ⟨by simp [u2], by simp [u2, i64]⟩) fun k' e' => by
    rw [g3, ← a3, all12 h]
    split
    · next hk =>
      subst hk
      by_cases he : e' = (u2 1 6 2).enc
      · subst he
        exact (lookW_cons_eq (u2 1 6 2) _).trans (lookW_cons_eq (u2 1 6 2) []).symm
      · unfold y3
        rw [lookW_cons_ne _ (fun h => he h.2.symm), lookW_cons_ne _ (fun h => he h.2.symm), lookW_nil]
        refine lookW_none fun x hx hh => ?_
        simp at hx
        rcases hx with rfl | rfl
        · exact hne 2 (by simp [i64]) (by decide) hh.1
        · exact hne 3 (by simp [i64]) (by decide) hh.1
    · next hk =>
      exact (lookW_cons_ne [] (fun h => hk h.1.symm)).symm
  have hr : ∀ u ∈ getL bs (encB [iv 1]), IOk [0] u.key u.enc u.row := allL_ok _ fun z hz u hu => by
    obtain ⟨y, hy, rfl⟩ := List.mem_map.1 hz
    exact h.row y12_row y hy u (List.mem_filter.1 hu).1
  generalize getL bs (encB [iv 1]) = g at *
  match g, hm with
  | [], hm => simp at hm
  | _ :: _ :: _, hm => simp at hm
  | [u], hm =>
    simp only [List.map_cons, List.map_nil, List.cons.injEq, Prod.mk.injEq, and_true] at hm
    obtain ⟨_, h2, h3⟩ := hm
    have hu := hr u (by simp)
    have he : u.row = r2 1 6 := encB_inj hu.1 (u2_iok (a := 1) (b := 6) (w := 2) (by simp [i64]) (by simp [i64])).1 (by rw [← hu.2.1, h2]; rfl)
    show [GE.mk u.row u.size] = [e2 1 6 2]
    rw [he, h3]; rfl
theorem weight12 {bs : List (List GI)} (h : Joins [y1, y2] bs) : weightOf ⟨[0], bs, 3⟩ (r2 1 6) = 2 := by
  unfold weightOf
  simp only [pick_two]
  rw [← (allL_fine (h.fine y12_fine).1).2.2, all12 h]
  exact lookW_cons_eq (u2 1 6 2) _
theorem rdz3 {w : World} {v1 v2 v3 : Value} {r1 r2 r3 : List GV} {n1 n2 n3 : Int} (h1 : RdV w AnyB v1 r1) (h2 : RdV w AnyB v2 r2) (h3 : RdV w AnyB v3 r3) (i1 : i64 n1) (i2 : i64 n2) (i3 : i64 n3) :
    RdZ (w.alloc (.cells #[v1, .int .i64 n1, v2, .int .i64 n2, v3, .int .i64 n3] 47)) AnyB (.slice (some ⟨w.heap.size, 0, none⟩) 3 3) [⟨r1, n1⟩, ⟨r2, n2⟩, ⟨r3, n3⟩] := by
  have hb : Below w.heap.size w (w.alloc (.cells #[v1, .int .i64 n1, v2, .int .i64 n2, v3, .int .i64 n3] 47)) := (Below.refl _ _).alloc (Nat.le_refl _) _
  obtain ⟨_, _, rfl, _⟩ := h1.shape
  obtain ⟨_, _, rfl, _⟩ := h2.shape
  obtain ⟨_, _, rfl, _⟩ := h3.shape
  refine RdL.lit _ _ ((((Reps.nil 2 _).snoc (EE.lit (h1.ext hb) i1) rfl).snoc (EE.lit (h2.ext hb) i2) rfl).snoc (EE.lit (h3.ext hb) i3) rfl) ?_ (by simp) _ 47 3 rfl (heap_alloc_new _ _) trivial
  simp [Value.oneCell']
theorem rdz2 {w : World} {v1 v2 : Value} {r1 r2 : List GV} {n1 n2 : Int} (h1 : RdV w AnyB v1 r1) (h2 : RdV w AnyB v2 r2) (i1 : i64 n1) (i2 : i64 n2) :
    RdZ (w.alloc (.cells #[v1, .int .i64 n1, v2, .int .i64 n2] 47)) AnyB (.slice (some ⟨w.heap.size, 0, none⟩) 2 2) [⟨r1, n1⟩, ⟨r2, n2⟩] := by
  have hb : Below w.heap.size w (w.alloc (.cells #[v1, .int .i64 n1, v2, .int .i64 n2] 47)) := (Below.refl _ _).alloc (Nat.le_refl _) _
  obtain ⟨_, _, rfl, _⟩ := h1.shape
  obtain ⟨_, _, rfl, _⟩ := h2.shape
  refine RdL.lit _ _ (((Reps.nil 2 _).snoc (EE.lit (h1.ext hb) i1) rfl).snoc (EE.lit (h2.ext hb) i2) rfl) ?_ (by simp) _ 47 2 rfl (heap_alloc_new _ _) trivial
  simp [Value.oneCell']
theorem rdz1 {w : World} {v1 : Value} {r1 : List GV} {n1 : Int} (h1 : RdV w AnyB v1 r1) (i1 : i64 n1) :
    RdZ (w.alloc (.cells #[v1, .int .i64 n1] 47)) AnyB (.slice (some ⟨w.heap.size, 0, none⟩) 1 1) [⟨r1, n1⟩] := by
  have hb : Below w.heap.size w (w.alloc (.cells #[v1, .int .i64 n1] 47)) := (Below.refl _ _).alloc (Nat.le_refl _) _
  obtain ⟨_, _, rfl, _⟩ := h1.shape
  refine RdL.lit _ _ ((Reps.nil 2 _).snoc (EE.lit (h1.ext hb) i1) rfl) ?_ (by simp) _ 47 1 rfl (heap_alloc_new _ _) trivial
  simp [Value.oneCell']
theorem rdi0 (w : World) : RdI (w.alloc (.cells #[.int .i64 0] 3)) AnyB (.slice (some ⟨w.heap.size, 0, none⟩) 1 1) [0] :=
  RdL.lit _ _ ((Reps.nil 1 EI).snoc (x := (0 : Int)) ⟨rfl, by simp [i64]⟩ rfl) (by simp [Value.oneCell']) (by simp) _ 3 1 rfl (heap_alloc_new _ _) trivial
theorem rdv1 (w : World) : RdV (w.alloc (.cells #[.int .i64 2, .int .i64 1, .int .u64 0, .string ⟨#[]⟩] 55)) AnyB (.slice (some ⟨w.heap.size, 0, none⟩) 1 1) [iv 1] :=
  RdL.lit _ _ ((Reps.nil 4 EV).snoc (x := iv 1) ⟨rfl, iv_ok (by simp [i64])⟩ rfl) (GV.cells_one (iv 1)) (by simp) _ 55 1 rfl (heap_alloc_new _ _) trivial
theorem field_row (g : Nat) (n : Int) (w : World) : (Instr.field 47 (.agg #[.slice (some ⟨g, 0, none⟩) 2 2, .int .i64 n]) 0).run Tryz.prog w = .ok (.slice (some ⟨g, 0, none⟩) 2 2) w := by
  kernel_rfl
set_option maxHeartbeats 8000000 in
set_option maxRecDepth 100000 in
theorem awake_any (w : World) (hw : GW w) : Calls Tryz.prog 8 #[] w fun e w' => e = .returned (.bool true) ∧ Below w.heap.size w w' := by
  have HW := As.mk hw
  have hB0 : Below w.heap.size w (w.alloc (.cells #[.int .i64 0] 3)) := (Below.refl _ _).alloc (Nat.le_refl _) _
  have h1 := spNew_good _ _ _ (rdi0 w) (by decide)
  clear hw
  go_enter Tryz.func8, Tryz.ntmps8
  go_wp2_with fail
  refine h1.mono ?_
  rintro e w2 ⟨b, rfl, hN, hB2⟩
  have HN := As.mk hN.sp
  have HBB := As.mk hN.1
  have hbase : w.heap.size ≤ (w.alloc (.cells #[.int .i64 0] 3)).heap.size := hB0.size
  have hbase2 := hB2.size
  have HB2 := As.mk (hB0.trans (hB2.mono hB0.size))
  clear hN hB2 hB0 h1
  generalize (w.alloc (.cells #[.int .i64 0] 3)).heap.size = base at *
  go_wp2_with fail
  refine (two_any 1 5 1 (by simp [i64]) (by simp [i64]) _).mono ?_
  rintro e w3 ⟨g3, rfl, hr3, hB3⟩
  go_wp2_with fail
  refine (two_any 1 6 2 (by simp [i64]) (by simp [i64]) _).mono ?_
  rintro e w4 ⟨g4, rfl, hr4, hB4⟩
  go_wp2_with fail
  refine (two_any 2 5 1 (by simp [i64]) (by simp [i64]) _).mono ?_
  rintro e w5 ⟨g5, rfl, hr5, hB5⟩
  have hz1 := rdz3 ((hr3.ext hB4).ext hB5 |>.mv (Stays.any _ _)) (hr4.ext hB5 |>.mv (Stays.any _ _)) (hr5.mv (Stays.any _ _)) (n1 := 1) (n2 := 2) (n3 := 1) (by simp [i64]) (by simp [i64]) (by simp [i64])
  have hB5' : Below w2.heap.size w2 w5 := (hB3.trans (hB4.mono hB3.size)).trans (hB5.mono (Nat.le_trans hB3.size hB4.size))
  have hB6 := hB5'.alloc hB5'.size (.cells #[.slice (some ⟨g3, 0, none⟩) 2 2, .int .i64 1, .slice (some ⟨g4, 0, none⟩) 2 2, .int .i64 2, .slice (some ⟨g5, 0, none⟩) 2 2, .int .i64 1] 47)
  have hP1 := put_any base b ⟨[0], [], 0⟩ _ z1 _ (HW.out.below (HB2.out.trans (hB6.mono HB2.out.size))) hz1 (Nat.le_trans hbase2 hB6.size) (HN.out.ext hB6) (fun z hz => by cases hz) (by decide) (by simp) (by simp)
  clear hz1 hr3 hr4 hr5 hB3 hB4 hB5
  go_wp2_with fail
  refine hP1.mono ?_
  rintro e w7 hpost
  obtain ⟨rfl, hS7, hM7⟩ := put1 hpost
  have hbase7 : base ≤ w7.heap.size := Nat.le_trans (Nat.le_trans hbase2 hB6.size) hM7.size
  have HB7 := As.mk ((HB2.out.trans (hB6.mono HB2.out.size)).trans (hM7.below hbase (by have := HBB.out; omega) (Nat.le_trans HB2.out.size hB6.size)))
  have HS7 := As.mk hS7
  clear hpost hS7 hM7 hP1 hB6 hB5' HN HB2
  go_wp2_with fail
  refine (two_any 1 5 (-1) (by simp [i64]) (by simp [i64]) _).mono ?_
  rintro e w8 ⟨g8, rfl, hr8, hB8⟩
  go_wp2_with fail
  refine (two_any 3 5 1 (by simp [i64]) (by simp [i64]) _).mono ?_
  rintro e w9 ⟨g9, rfl, hr9, hB9⟩
  have hz2 := rdz2 (hr8.ext hB9 |>.mv (Stays.any _ _)) (hr9.mv (Stays.any _ _)) (n1 := -1) (n2 := 1) (by simp [i64]) (by simp [i64])
  have hB9' : Below w7.heap.size w7 w9 := hB8.trans (hB9.mono hB8.size)
  have hB10 := hB9'.alloc hB9'.size (.cells #[.slice (some ⟨g8, 0, none⟩) 2 2, .int .i64 (-1), .slice (some ⟨g9, 0, none⟩) 2 2, .int .i64 1] 47)
  have hP2 := put_any base b ⟨[0], [y1], 3⟩ _ z2 _ (HW.out.below (HB7.out.trans (hB10.mono HB7.out.size))) hz2 (Nat.le_trans hbase7 hB10.size) (HS7.out.ext hB10) (fun z hz => by rw [List.mem_singleton.1 hz]; exact y1_rise) (by decide) (by simp) (by simp)
  clear hz2 hr8 hr9 hB8 hB9
  go_wp2_with fail
  refine hP2.mono ?_
  rintro e w11 hpost
  obtain ⟨rfl, ⟨bs3, hS11, hJ⟩, hM11⟩ := put2 hpost
  have HB11 := As.mk ((HB7.out.trans (hB10.mono HB7.out.size)).trans (hM11.below hbase (by have := HBB.out; omega) (Nat.le_trans HB7.out.size hB10.size)))
  have hF := (hJ.fine y12_fine).1
  have hRow := hJ.row y12_row
  have hh5 : heldL bs3 ≤ 5 := hJ.held
  have hh3 : 3 ≤ heldL bs3 := by have := allL_len bs3; rw [all12 hJ] at this; exact this
  have hl1 : 1 ≤ bs3.length := by
    rcases Nat.eq_zero_or_pos bs3.length with h | h
    · rw [List.eq_nil_of_length_eq_zero h] at hh3; simp [heldL] at hh3
    · exact h
  have HR := As.mk (fun z hz => (hF z hz).1 : ∀ z ∈ bs3, Rise z)
  have HSN := As.mk (fun z hz u hu => (hRow z hz u hu).1.1 : ∀ z ∈ bs3, ∀ u ∈ z, rsound u.row = true)
  have HS := As.mk hS11
  have HJ := As.mk hJ
  clear hpost hP2 hB10 hB9' hM11 hF hRow HB7 HS7 hS11 hJ
  have hB12 : Below w11.heap.size w11 (w11.alloc (.cells #[.int .i64 2, .int .i64 1, .int .u64 0, .string ⟨#[]⟩] 55)) := (Below.refl _ _).alloc (Nat.le_refl _) _
  have hG := get_any base b ⟨[0], bs3, 3⟩ _ [iv 1] _ (HW.out.below (HB11.out.trans (hB12.mono HB11.out.size))) (rdv1 w11) (r1_sound 1) (HS.out.ext hB12) HR.out (by simp only; omega) HSN.out
  unfold ZPost at hG
  go_wp2_with fail
  refine hG.mono ?_
  rintro e w13 ⟨v13, rfl, hB13, xs, hp, _, hrd⟩
  rw [get12 HJ.out] at hp
  obtain rfl := List.perm_singleton.1 hp
  obtain ⟨A13, c13, rfl, _⟩ := hrd.shape
  have hB13' := hB12.trans (hB13.mono hB12.size)
  have HRG := As.mk hrd.any
  clear hp hrd hG hB13 hB12
  go_wp2_with fail
  refine (two_any 1 6 2 (by simp [i64]) (by simp [i64]) _).mono ?_
  rintro e w14 ⟨g14, rfl, hr14, hB14⟩
  have hzz := rdz1 (hr14.mv (Stays.any _ _)) (n1 := 2) (by simp [i64])
  have hB15 := hB14.alloc hB14.size (.cells #[.slice (some ⟨g14, 0, none⟩) 2 2, .int .i64 2] 47)
  have hSm := same3_any _ _ _ _ _ (HRG.out.ext hB15) hzz
  rw [(sameZ_eq [e2 1 6 2] [⟨r2 1 6, 2⟩]).2 rfl] at hSm
  have HB15 := As.mk (hB13'.trans (hB15.mono hB13'.size))
  clear hzz hr14 hB14 hB15 hB13'
  go_wp2_with fail
  refine hSm.mono ?_
  rintro e w16 ⟨rfl, m16, rfl⟩
  have HB16 := As.mk (HB15.out.trans ((Ext.drewN (Ext.refl _) m16).below.mono HB15.out.size))
  clear hSm
  go_wp2_with fail
  refine (spLen_any base b _ _ (HS.out.ext HB16.out)).mono ?_
  rintro e w17 ⟨rfl, rfl⟩
  have hAl := all_any base b _ _ (HS.out.ext HB16.out) (by simp only; omega) HSN.out
  unfold ZPost at hAl
  go_wp2_with fail
  refine hAl.mono ?_
  rintro e w18 ⟨v18, rfl, hB18, xs, hp, hso, hrd⟩
  obtain rfl := told12 HJ.out hp (hso.imp fun h => Int.not_lt.2 h)
  obtain ⟨A18, c18, rfl, _⟩ := hrd.shape
  have HRA := As.mk hrd.any
  have HB18 := As.mk (HB16.out.trans (hB18.mono HB16.out.size))
  clear hp hso hrd hAl hB18
  go_wp2_with fail
  refine (two_any 1 6 2 (by simp [i64]) (by simp [i64]) _).mono ?_
  rintro e w19 ⟨g19, rfl, hr19, hB19⟩
  go_wp2_with fail
  refine (two_any 2 5 1 (by simp [i64]) (by simp [i64]) _).mono ?_
  rintro e w20 ⟨g20, rfl, hr20, hB20⟩
  go_wp2_with fail
  refine (two_any 3 5 1 (by simp [i64]) (by simp [i64]) _).mono ?_
  rintro e w21 ⟨g21, rfl, hr21, hB21⟩
  have hzz := rdz3 ((hr19.ext hB20).ext hB21 |>.mv (Stays.any _ _)) (hr20.ext hB21 |>.mv (Stays.any _ _)) (hr21.mv (Stays.any _ _)) (n1 := 2) (n2 := 1) (n3 := 1) (by simp [i64]) (by simp [i64]) (by simp [i64])
  have hB21' : Below w18.heap.size w18 w21 := (hB19.trans (hB20.mono hB19.size)).trans (hB21.mono (Nat.le_trans hB19.size hB20.size))
  have hB22 := hB21'.alloc hB21'.size (.cells #[.slice (some ⟨g19, 0, none⟩) 2 2, .int .i64 2, .slice (some ⟨g20, 0, none⟩) 2 2, .int .i64 1, .slice (some ⟨g21, 0, none⟩) 2 2, .int .i64 1] 47)
  have hSm := same3_any _ _ _ _ _ (HRA.out.ext hB22) hzz
  rw [(sameZ_eq z3 [⟨r2 1 6, 2⟩, ⟨r2 2 5, 1⟩, ⟨r2 3 5, 1⟩]).2 rfl] at hSm
  have HB22 := As.mk (HB18.out.trans (hB22.mono HB18.out.size))
  clear hzz hr19 hr20 hr21 hB19 hB20 hB21 hB21' hB22
  go_wp2_with fail
  refine hSm.mono ?_
  rintro e w23 ⟨rfl, m23, rfl⟩
  have HB23 := As.mk (HB22.out.trans ((Ext.drewN (Ext.refl _) m23).below.mono HB22.out.size))
  clear hSm
  go_wp2_with fail
  refine (two_any 1 6 0 (by simp [i64]) (by simp [i64]) _).mono ?_
  rintro e w24 ⟨g24, rfl, hr24, hB24⟩
  have HB24 := As.mk (HB23.out.trans (hB24.mono HB23.out.size))
  have hWt := spWeight_any base b ⟨[0], bs3, 3⟩ _ (r2 1 6) w24 (HW.out.below (HB11.out.trans (HB24.out.mono HB11.out.size))) (HS.out.ext HB24.out) HR.out (hr24.mv (Stays.any _ _))
  rw [weight12 HJ.out] at hWt
  have hfl := field_row g24 0 w24
  clear hr24 hB24
  go_wp2_with fail
  refine hWt.mono ?_
  rintro e w25 ⟨rfl, hB25⟩
  have HB25 := As.mk (HB24.out.trans (hB25.mono HB24.out.size))
  clear hWt hB25
  have n3 : (3 : Int) ≤ (heldL bs3 : Int) := by omega
  have n1 : (1 : Int) ≤ (bs3.length : Int) := by omega
  go_wp2_with fail
  refine (spHeld_any base b ⟨[0], bs3, 3⟩ _ (HS.out.ext HB25.out) (by simp only; omega)).mono ?_
  rintro e w26 ⟨rfl, rfl⟩
  go_wp2_with fail
  refine (spBatches_any base b ⟨[0], bs3, 3⟩ _ (HS.out.ext HB25.out)).mono ?_
  rintro e w26 ⟨rfl, rfl⟩
  go_wp2_with fail
  go_ret
  exact ⟨by simp [n1], HB11.out.trans (HB25.out.mono HB11.out.size)⟩
end Go.Proofs.YtmpndmjfdijamaaGreatDoor
