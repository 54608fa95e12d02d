/- The walk of 'awake': what the document fixes by number. -/
import Derived.Test.YtmpndmjfdijamaaGreatDoorTwo
set_option linter.unusedVariables false
set_option linter.unusedSimpArgs false
namespace Go.Proofs.YtmpndmjfdijamaaGreatDoor
open Go.RowKit Go.Sort
theorem RdL.lit {α : Type} {sz : Nat} {E : α → List Value → Prop} {w : World} {ok : Blk} (xs : List α) (cs : List Value) (hr : Reps sz E xs cs) (h1 : ∀ u ∈ cs, u.oneCell' = true) (hl : xs.length ≤ 4294967296) (b : Nat) (t : TypeId) (n : Nat) (hn : n = xs.length)
    (hb : w.heap[b]? = some (.cells cs.toArray t (0, 0))) (hok : ok b t) : RdL sz E w ok (.slice (some ⟨b, 0, none⟩) n n) xs := by
  subst hn
  refine ⟨_, xs.length, rfl, Nat.le_refl _, hl, fun _ => ⟨b, 0, _, t, (0, 0), rfl, Okf.soft hok, hb, fun j x hj => ?_⟩⟩
  have hjl := (List.getElem?_eq_some_iff.1 hj).1
  have hb1 : j * sz + sz ≤ cs.length := by rw [hr.1, ← Nat.succ_mul]; exact Nat.mul_le_mul_right _ hjl
  refine ⟨(cs.drop (j * sz)).take sz, by rw [List.length_take, List.length_drop]; omega, hr.2 j x hj, fun u hu => h1 u (List.mem_of_mem_drop (List.mem_of_mem_take hu)), fun i u hu => ?_⟩
  rw [List.getElem?_take] at hu
  split at hu
  · rw [List.getElem?_drop] at hu
    rw [Nat.zero_add]
    simpa using hu
  · cases hu
theorem reps_r2 {a b : Int} (ha : i64 a) (hb : i64 b) : Reps 4 EV (r2 a b) ((iv a).cells ++ (iv b).cells) :=
  ((Reps.nil 4 EV).snoc (x := iv a) ⟨rfl, iv_ok ha⟩ rfl).snoc (x := iv b) ⟨rfl, iv_ok hb⟩ rfl
theorem EE.lit {w : World} {ok : Blk} {v : Value} {r : List GV} {n : Int} (h : RdV w ok v r) (hn : i64 n) : EE w ok ⟨r, n⟩ [v, .int .i64 n] := ⟨v, rfl, hn, h⟩
theorem two_any (a b c : Int) (ha : i64 a) (hb : i64 b) (w : World) : Calls Tryz.prog 29 #[.int .i64 a, .int .i64 b, .int .i64 c] w fun e w' => ∃ g, e = .returned (.agg #[.slice (some ⟨g, 0, none⟩) 2 2, .int .i64 c]) ∧ RdV w' (Fresh w.heap.size [55]) (.slice (some ⟨g, 0, none⟩) 2 2) (r2 a b) ∧ Below w.heap.size w w' := by
  go_enter Tryz.func29, Tryz.ntmps29
  go_wp2
  have hk : ((w.alloc (.cells #[.slice (some ⟨w.heap.size + 1, 0, none⟩) 2 2, .int .i64 c] 47)).alloc (.cells #[.int .i64 2, .int .i64 a, .int .u64 0, .string ⟨#[]⟩, .int .i64 2, .int .i64 b, .int .u64 0, .string ⟨#[]⟩] 55)).heap[w.heap.size]? = some (.cells #[.slice (some ⟨w.heap.size + 1, 0, none⟩) 2 2, .int .i64 c] 47 (0, 0)) :=
    (heap_alloc_old _ _ (by simp)).trans (heap_alloc_new _ _)
  (try simp only [Exit.inBlock, Exit.then])
  refine bodyPost_ret (results_cell_row rfl _ _ w.heap.size 47 _ (0, 0) _ rfl hk Tryz.underlying47 rfl (by kernel_rfl)) rfl ?_
  refine ⟨_, rfl, RdL.lit (r2 a b) ((iv a).cells ++ (iv b).cells) (reps_r2 ha hb) ?_ (by simp [r2]) (w.heap.size + 1) 55 2 rfl (heap_alloc2_new w _ _) ⟨by omega, by simp⟩, ((Below.refl _ _).alloc (Nat.le_refl _) _).alloc (by simp) _⟩
  intro u hu
  rcases List.mem_append.1 hu with hu | hu <;> exact GV.cells_one _ u hu
theorem pairs_ok {xs : List GI} (h : Rise xs) {ys : List GI} (hp : ys.Perm xs) (hs : ys.Pairwise fun x y => ¬ y.cmp x < 0) : ys = xs := rise_perm hp (perm_rise hp h.ne hs) h
theorem put1 {base b : Nat} {w w' : World} {e : Ending} (h : PutPost base b ⟨[0], [], 0⟩ z1 w e w') : e = .returned (.int .i64 0) ∧ SpAt base b w' ⟨[0], [y1], 3⟩ ∧ Mut base b w w' := by
  obtain ⟨hm, h⟩ := h
  rw [if_neg (by rw [z1_sound]; decide)] at h
  simp only [items1, live1] at h
  obtain ⟨he, bs1, bs2, hb, hj, _, hs⟩ := h
  rw [if_neg (by simp [y1])] at hb
  obtain ⟨ys, hp, hso, rfl⟩ := hb
  rw [pairs_ok y1_rise hp hso] at hj
  rw [joins_one hj] at hs
  exact ⟨he, hs, hm⟩
theorem put2 {base b : Nat} {w w' : World} {e : Ending} (h : PutPost base b ⟨[0], [y1], 3⟩ z2 w e w') : e = .returned (.int .i64 0) ∧ (∃ bs3, SpAt base b w' ⟨[0], bs3, 3⟩ ∧ Joins [y1, y2] bs3) ∧ Mut base b w w' := by
  obtain ⟨hm, h⟩ := h
  rw [if_neg (by rw [z2_sound]; decide)] at h
  simp only [items2, live2] at h
  obtain ⟨he, bs1, bs2, hb, hj, _, hs⟩ := h
  rw [if_neg (by simp [y2])] at hb
  obtain ⟨ys, hp, hso, rfl⟩ := hb
  rw [pairs_ok y2_rise hp hso] at hj
  exact ⟨he, ⟨bs2, hs, hj⟩, hm⟩
theorem u2_iok {a b w : Int} (ha : i64 a) (hb : i64 b) : IOk [0] (u2 a b w).key (u2 a b w).enc (u2 a b w).row :=
  ⟨⟨r2_sound a b, by intro x hx; simp [u2, r2] at hx; rcases hx with rfl | rfl <;> first | exact iv_ok ha | exact iv_ok hb⟩, rfl, [iv a], pick_two a b, rfl⟩
theorem y12_fine : Fine [y1, y2] := by
  intro z hz
  simp at hz
  rcases hz with rfl | rfl
  · exact ⟨y1_rise, by intro u hu; simp [y1] at hu; rcases hu with rfl | rfl | rfl <;> exact ⟨by simp [u2], by simp [u2, i64]⟩, by simp [y1]⟩
  · exact ⟨y2_rise, by intro u hu; simp [y2] at hu; rcases hu with rfl | rfl <;> exact ⟨by simp [u2], by simp [u2, i64]⟩, by simp [y2]⟩
theorem y12_row : ∀ z ∈ [y1, y2], ∀ u ∈ z, IOk [0] u.key u.enc u.row := by
  intro z hz u hu
  simp at hz
  rcases hz with rfl | rfl
  · simp [y1] at hu; rcases hu with rfl | rfl | rfl <;> exact u2_iok (by simp [i64]) (by simp [i64])
  · simp [y2] at hu; rcases hu with rfl | rfl <;> exact u2_iok (by simp [i64]) (by simp [i64])
theorem all12 {bs : List (List GI)} (h : Joins [y1, y2] bs) : allL bs = y3 := by
  rw [all_one (h.fine y12_fine).1 y12_fine (h.row y12_row) y12_row (h.fine y12_fine).2]
  show mergeL (mergeL [] y1) y2 = y3
  rw [show mergeL [] y1 = y1 by simp [mergeL], merge12]
theorem z3_sorted : z3.Pairwise fun x y => ¬ rlex y.row x.row < 0 := by
  have h : ∀ a b c d, rlex (r2 a b) (r2 c d) = orv (icmp a c) (orv (icmp b d) 0) := fun a b c d => by rw [← rcmp_lex (r2_sound a b) (r2_sound c d), rcmp_r2]
  simp only [z3, List.pairwise_cons, e2, h]
  decide
theorem told12 {bs : List (List GI)} (h : Joins [y1, y2] bs) {xs : List GE} (hp : xs.Perm ((allL bs).map GI.ent)) (hs : xs.Pairwise fun x y => ¬ rlex y.row x.row < 0) : xs = z3 := by
  have h1 := ents_one (allL_fine (h.fine y12_fine).1).1 (allL_ok bs (h.row y12_row)) hp
  rw [all12 h] at hp
  exact sorted_one hp hs z3_sorted h1
theorem get12 {bs : List (List GI)} (h : Joins [y1, y2] bs) : (getL bs (encB [iv 1])).map GI.ent = [e2 1 6 2] := by
  have hf := (h.fine y12_fine).1
  obtain ⟨g1, g2, g3⟩ := getL_look hf (encB [iv 1])
  obtain ⟨a1, a2, a3⟩ := allL_fine hf
  have hne : ∀ n, i64 n → n ≠ 1 → encB [iv n] ≠ encB [iv 1] := fun n hn h1 => encB_ne ⟨r1_sound n, by intro x hx; simp at hx; subst hx; exact iv_ok hn⟩ ⟨r1_sound 1, by intro x hx; simp at hx; subst hx; exact iv_ok (by simp [i64])⟩ (by simpa [iv] using h1)
  have hm := rise_ext g1 (b := [u2 1 6 2]) (List.pairwise_singleton _ _) g2 (by intro u hu; simp at hu; subst hu; exact ⟨by simp [u2], by simp [u2, i64]⟩) fun k' e' => by
    rw [g3, ← a3, all12 h]
    split
    · next hk =>
      subst hk
      by_cases he : e' = (u2 1 6 2).enc
      · subst he
        exact (lookW_cons_eq (u2 1 6 2) _).trans (lookW_cons_eq (u2 1 6 2) []).symm
      · unfold y3
        rw [lookW_cons_ne _ (fun h => he h.2.symm), lookW_cons_ne _ (fun h => he h.2.symm), lookW_nil]
        refine lookW_none fun x hx hh => ?_
        simp at hx
        rcases hx with rfl | rfl
        · exact hne 2 (by simp [i64]) (by decide) hh.1
        · exact hne 3 (by simp [i64]) (by decide) hh.1
    · next hk =>
      exact (lookW_cons_ne [] (fun h => hk h.1.symm)).symm
  have hr : ∀ u ∈ getL bs (encB [iv 1]), IOk [0] u.key u.enc u.row := allL_ok _ fun z hz u hu => by
    obtain ⟨y, hy, rfl⟩ := List.mem_map.1 hz
    exact h.row y12_row y hy u (List.mem_filter.1 hu).1
  generalize getL bs (encB [iv 1]) = g at *
  match g, hm with
  | [], hm => simp at hm
  | _ :: _ :: _, hm => simp at hm
  | [u], hm =>
    simp only [List.map_cons, List.map_nil, List.cons.injEq, Prod.mk.injEq, and_true] at hm
    obtain ⟨_, h2, h3⟩ := hm
    have hu := hr u (by simp)
    have he : u.row = r2 1 6 := encB_inj hu.1 (u2_iok (a := 1) (b := 6) (w := 2) (by simp [i64]) (by simp [i64])).1 (by rw [← hu.2.1, h2]; rfl)
    show [GE.mk u.row u.size] = [e2 1 6 2]
    rw [he, h3]; rfl
theorem weight12 {bs : List (List GI)} (h : Joins [y1, y2] bs) : weightOf ⟨[0], bs, 3⟩ (r2 1 6) = 2 := by
  unfold weightOf
  simp only [pick_two]
  rw [← (allL_fine (h.fine y12_fine).1).2.2, all12 h]
  exact lookW_cons_eq (u2 1 6 2) _
end Go.Proofs.YtmpndmjfdijamaaGreatDoor
