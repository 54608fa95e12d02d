/- What a spine keeps: the invariant, and that Put and Compact keep it; what All tells is one list. -/
import Derived.Test.YtmpndmjfdijamaaGreatDoorInj
set_option linter.unusedSimpArgs false
namespace Go.Proofs.YtmpndmjfdijamaaGreatDoor
open Go.RowKit Go.Sort
/-- An item's key, bytes and row belong together. -/
def IOk (cols : List Int) (k e : ByteArray) (r : List GV) : Prop := RowOk r ∧ e = encB r ∧ ∃ key, pick r cols = some key ∧ k = encB key
structure Inv (S : GS) : Prop where
  fine : Fine S.bs
  row : ∀ z ∈ S.bs, ∀ u ∈ z, IOk S.cols u.key u.enc u.row
  live : S.live = (allL S.bs).length
  held : (heldL S.bs : Int) ≤ 2 * S.live + 16
theorem Inv.new (cols : List Int) : Inv ⟨cols, [], 0⟩ where
  fine := fun z hz => by cases hz
  row := fun z hz => by cases hz
  live := rfl
  held := by simp [heldL]
theorem Fine.nums {bs : List (List GI)} (h : Fine bs) : bs.length ≤ heldL bs := by
  induction bs with
  | nil => exact Nat.le_refl _
  | cons z bs ih =>
    have h1 := List.length_pos_iff.2 (h z (by simp)).2.2
    have h2 := ih fun y hy => h y (by simp [hy])
    simp only [List.length_cons, heldL]
    omega
theorem Fine.zero {bs : List (List GI)} (h : Fine bs) : heldL bs = 0 ↔ bs = [] := by
  refine ⟨fun h0 => ?_, fun h0 => by rw [h0]; rfl⟩
  have := h.nums
  exact List.eq_nil_of_length_eq_zero (by omega)
theorem held_one {bs : List (List GI)} (h : bs.length ≤ 1) : heldL bs = (allL bs).length := by
  match bs, h with
  | [], _ => rfl
  | [z], _ => simp [heldL, allL, mergeL]
/-- Every entry of a sound multiset, and its order. -/
theorem zsound0_parts : ∀ {z : List GE} {p : Option GE}, zsound0 p z = true → (∀ y, p = some y → rsound y.row = true) →
    (∀ x ∈ z, x.w ≠ 0 ∧ fair x.w = true ∧ rsound x.row = true) ∧ (z.Pairwise fun x y => rlex x.row y.row < 0) ∧ (∀ y, p = some y → ∀ x ∈ z, rlex y.row x.row < 0)
  | [], p, _, _ => ⟨by simp, List.Pairwise.nil, by simp⟩
  | x :: z, p, h, hp => by
    rw [zsound0, Bool.and_eq_true] at h
    obtain ⟨h1, h2⟩ := h
    unfold entOk at h1
    simp only [Bool.and_eq_true, Bool.not_eq_true', beq_eq_false_iff_ne] at h1
    obtain ⟨⟨⟨a1, a2⟩, a3⟩, a4⟩ := h1
    obtain ⟨b1, b2, b3⟩ := zsound0_parts h2 (fun y hy => by rw [← Option.some.inj hy]; exact a3)
    have b3 := b3 x rfl
    refine ⟨fun y hy => ?_, List.pairwise_cons.2 ⟨b3, b2⟩, fun y hy u hu => ?_⟩
    · rcases List.mem_cons.1 hy with rfl | hy
      · exact ⟨a1, a2, a3⟩
      · exact b1 y hy
    · subst hy
      have a5 : rlex y.row x.row < 0 := by
        have := of_decide_eq_true a4
        rwa [rcmp_lex (hp y rfl) a3] at this
      rcases List.mem_cons.1 hu with rfl | hu
      · exact a5
      · exact rlex_cmp.lt_trans a5 (b3 u hu)
theorem zsound_parts {z : List GE} (h : zsound z = true) : (∀ x ∈ z, x.w ≠ 0 ∧ fair x.w = true ∧ rsound x.row = true) ∧ (z.Pairwise fun x y => rlex x.row y.row < 0) :=
  let ⟨h1, h2, _⟩ := zsound0_parts (p := none) h (fun _ h => by cases h); ⟨h1, h2⟩
theorem itemG_some {cols : List Int} {x : GE} {u : GI} (h : itemG cols x = some u) : ∃ key, pick x.row cols = some key ∧ u = ⟨encB key, encB x.row, x.row, x.w⟩ := by
  unfold itemG at h
  split at h
  · cases h
  · next key hk => exact ⟨key, hk, (Option.some.inj h).symm⟩
theorem itemsL_parts {cols : List Int} : ∀ {z : List GE} {xs : List GI}, itemsL cols z = some xs → (∀ u ∈ xs, ∃ x ∈ z, itemG cols x = some u) ∧ xs.map GI.row = z.map GE.row
  | [], xs, h => by
    simp only [itemsL, Option.some.injEq] at h
    subst h
    exact ⟨by simp, rfl⟩
  | x :: z, xs, h => by
    rw [itemsL] at h
    split at h
    · cases h
    · next y hy =>
      obtain ⟨ys, h1, rfl⟩ := Option.map_eq_some_iff.1 h
      obtain ⟨h2, h3⟩ := itemsL_parts h1
      refine ⟨fun u hu => ?_, ?_⟩
      · rcases List.mem_cons.1 hu with rfl | hu
        · exact ⟨x, by simp, hy⟩
        · obtain ⟨w, hw, hh⟩ := h2 u hu
          exact ⟨w, by simp [hw], hh⟩
      · obtain ⟨key, _, rfl⟩ := itemG_some hy
        rw [List.map_cons, List.map_cons, h3]
theorem fair_i64 {w : Int} (h : fair w = true) : i64 w := by
  unfold fair at h
  simp only [Bool.and_eq_true, decide_eq_true_eq] at h
  unfold i64
  omega
/-- The items of a sound change: well made, and no two alike. -/
theorem items_ok {cols : List Int} {z : List GE} {xs : List GI} (hz : zsound z = true) (ho : ∀ x ∈ z, ∀ v ∈ x.row, v.Ok) (h : itemsL cols z = some xs) :
    (∀ u ∈ xs, IOk cols u.key u.enc u.row) ∧ Nz xs ∧ xs.Pairwise fun u v => u.cmp v ≠ 0 := by
  obtain ⟨h1, h2⟩ := zsound_parts hz
  obtain ⟨h3, h4⟩ := itemsL_parts h
  have hi : ∀ u ∈ xs, IOk cols u.key u.enc u.row := fun u hu => by
    obtain ⟨x, hx, hg⟩ := h3 u hu
    obtain ⟨key, hk, rfl⟩ := itemG_some hg
    exact ⟨⟨(h1 x hx).2.2, ho x hx⟩, rfl, key, hk, rfl⟩
  refine ⟨hi, fun u hu => ?_, ?_⟩
  · obtain ⟨x, hx, hg⟩ := h3 u hu
    obtain ⟨key, hk, rfl⟩ := itemG_some hg
    exact ⟨(h1 x hx).1, fair_i64 (h1 x hx).2.1⟩
  · have h5 : (z.map GE.row).Pairwise fun a b => rlex a b < 0 := List.pairwise_map.2 h2
    rw [← h4, List.pairwise_map] at h5
    refine h5.imp_of_mem fun {u v} hu hv h => ?_
    intro h0
    have e2 := (kcmp_eq h0).2
    rw [(hi u hu).2.1, (hi v hv).2.1] at e2
    rw [encB_inj (hi u hu).1 (hi v hv).1 e2, rlex_cmp.refl] at h
    omega
theorem perm_rise {xs ys : List GI} (hp : ys.Perm xs) (hn : xs.Pairwise fun u v => u.cmp v ≠ 0) (hs : ys.Pairwise fun x y => ¬ y.cmp x < 0) : Rise ys :=
  rise_of_sorted hs ((hp.pairwise_iff (fun {u v} h h0 => h ((gicmp.eqv u v).2 h0))).2 hn)
theorem Joins.inv {cols : List Int} {bs bs' : List (List GI)} {live : Int} (h : Joins bs bs') (hf : Fine bs) (hr : ∀ z ∈ bs, ∀ u ∈ z, IOk cols u.key u.enc u.row) (hl : live = (allL bs).length) (hh : bs'.length ≤ 1 ∨ (heldL bs' : Int) ≤ 2 * live + 16) : Inv ⟨cols, bs', live⟩ where
  fine := (h.fine hf).1
  row := h.row hr
  live := by rw [hl, ← h.count hf]
  held := by
    rcases hh with hh | hh
    · have e1 := held_one hh
      have e2 := h.count hf
      simp only
      omega
    · exact hh
/-- Put keeps the invariant. -/
theorem put_inv {base b : Nat} {S : GS} {z : List GE} {w w' : World} {e : Ending} (hi : Inv S) (ho : ∀ x ∈ z, ∀ v ∈ x.row, v.Ok) (h : PutPost base b S z w e w') :
    Mut base b w w' ∧ ∃ err S', e = .returned (.int .i64 err) ∧ SpAt base b w' S' ∧ Inv S' ∧ S'.cols = S.cols ∧ heldL S'.bs ≤ heldL S.bs + z.length ∧ S'.live ≤ S.live + z.length := by
  obtain ⟨hm, h⟩ := h
  refine ⟨hm, ?_⟩
  split at h
  · exact ⟨1, S, h.1, h.2, hi, rfl, by omega, by omega⟩
  · next hz =>
    have hz : zsound z = true := by simpa using hz
    split at h
    · exact ⟨1, S, h.1, h.2, hi, rfl, by omega, by omega⟩
    · next xs hxs =>
      obtain ⟨i1, i2, i3⟩ := items_ok hz ho hxs
      have hlen : xs.length = z.length := by have := congrArg List.length (itemsL_parts hxs).2; simpa using this
      split at h
      · exact ⟨11, S, h.1, h.2, hi, rfl, by omega, by omega⟩
      · next live hl =>
        obtain ⟨he, bs1, bs2, hb, hj, hh, hs⟩ := h
        split at hb
        · next hx0 =>
          subst hb hx0
          have hl' : live = S.live := by simp only [liveL, Option.some.injEq] at hl; exact hl.symm
          have hI := hj.inv hi.fine hi.row (hl'.trans hi.live) hh
          exact ⟨0, _, he, hs, hI, rfl, by have := hj.held; simp only; omega, by simp only; omega⟩
        · next hx0 =>
          obtain ⟨ys, hp, hso, rfl⟩ := hb
          have hr := perm_rise hp i3 hso
          have hf : Fine (S.bs ++ [ys]) := fun y hy => by
            rcases List.mem_append.1 hy with hy | hy
            · exact hi.fine y hy
            · rw [List.mem_singleton.1 hy]
              exact ⟨hr, fun u hu => i2 u (hp.mem_iff.1 hu), fun h0 => hx0 (by rw [h0] at hp; exact hp.symm.eq_nil)⟩
          have hrow : ∀ y ∈ S.bs ++ [ys], ∀ u ∈ y, IOk S.cols u.key u.enc u.row := fun y hy u hu => by
            rcases List.mem_append.1 hy with hy | hy
            · exact hi.row y hy u hu
            · rw [List.mem_singleton.1 hy] at hu
              exact i1 u (hp.mem_iff.1 hu)
          have hc := put_count hi.fine hp hr hi.live hl
          have hI := hj.inv hf hrow hc hh
          have hhe := hj.held
          rw [heldL_app] at hhe
          simp only [heldL] at hhe
          have hpl := hp.length_eq
          refine ⟨0, _, he, hs, hI, rfl, by simp only; omega, ?_⟩
          have h1 : allL (S.bs ++ [ys]) = mergeL (allL S.bs) ys := by unfold allL; rw [List.foldl_append]; rfl
          have h2 := mergeL_length (allL S.bs) ys
          have h3 := hi.live
          rw [h1] at hc
          simp only
          omega
/-- What two spines of one content tell is one list. -/
theorem all_one {cols : List Int} {a b : List (List GI)} (fa : Fine a) (fb : Fine b) (ra : ∀ z ∈ a, ∀ u ∈ z, IOk cols u.key u.enc u.row) (rb : ∀ z ∈ b, ∀ u ∈ z, IOk cols u.key u.enc u.row) (h : ∀ k e, weightL a k e = weightL b k e) : allL a = allL b := by
  obtain ⟨a1, a2, a3⟩ := allL_fine fa
  obtain ⟨b1, b2, b3⟩ := allL_fine fb
  have hm := rise_ext a1 b1 a2 b2 fun k e => by rw [a3, b3, h]
  have hall : ∀ (bs : List (List GI)), (∀ z ∈ bs, ∀ u ∈ z, IOk cols u.key u.enc u.row) → ∀ u ∈ allL bs, IOk cols u.key u.enc u.row := by
    intro bs hbs
    have key : ∀ (bs : List (List GI)) (a : List GI), (∀ u ∈ a, IOk cols u.key u.enc u.row) → (∀ z ∈ bs, ∀ u ∈ z, IOk cols u.key u.enc u.row) → ∀ u ∈ bs.foldl mergeL a, IOk cols u.key u.enc u.row := by
      intro bs
      induction bs with
      | nil => intro a ha _; exact ha
      | cons z bs ih => intro a ha hb; exact ih _ (mergeL_all a z ha (hb z (by simp))) fun z' hz' => hb z' (by simp [hz'])
    exact key bs [] (by simp) hbs
  have qa := hall a ra
  have qb := hall b rb
  generalize allL a = x at *
  generalize allL b = y at *
  clear a1 a2 a3 b1 b2 b3 fa fb ra rb h hall
  induction x generalizing y with
  | nil => cases y with
    | nil => rfl
    | cons v y => simp at hm
  | cons u x ih => cases y with
    | nil => simp at hm
    | cons v y =>
      simp only [List.map_cons, List.cons.injEq, Prod.mk.injEq] at hm
      obtain ⟨⟨e1, e2, e3⟩, e4⟩ := hm
      have hu := qa u (by simp)
      have hv := qb v (by simp)
      have er : u.row = v.row := encB_inj hu.1 hv.1 (by rw [← hu.2.1, ← hv.2.1, e2])
      rw [ih (fun t ht => qa t (by simp [ht])) y (fun t ht => qb t (by simp [ht])) e4]
      cases u; cases v
      simp only at e1 e2 e3 er
      rw [e1, e2, e3, er]
/-- Sorted lists of the same entries are one list. -/
theorem sorted_one : ∀ {xs ys : List GE}, xs.Perm ys → (xs.Pairwise fun x y => ¬ rlex y.row x.row < 0) → (ys.Pairwise fun x y => ¬ rlex y.row x.row < 0) → (∀ u ∈ xs, ∀ v ∈ xs, rlex u.row v.row = 0 → u = v) → xs = ys
  | [], ys, h, _, _, _ => h.symm.eq_nil.symm
  | x :: xs, [], h, _, _, _ => h.eq_nil
  | x :: xs, y :: ys, h, h1, h2, hu => by
    have e : x = y := by
      have m1 : x ∈ y :: ys := h.mem_iff.1 (by simp)
      have m2 : y ∈ x :: xs := h.mem_iff.2 (by simp)
      rcases List.mem_cons.1 m1 with m1 | m1
      · exact m1
      · rcases List.mem_cons.1 m2 with m2 | m2
        · exact m2.symm
        · have a1 := (List.pairwise_cons.1 h1).1 y m2
          have a2 := (List.pairwise_cons.1 h2).1 x m1
          have a3 := rlex_cmp.flip x.row y.row
          have a4 := rlex_cmp.flip y.row x.row
          exact hu x (by simp) y (by simp [m2]) (by omega)
    subst e
    rw [sorted_one ((List.perm_cons x).1 h) (List.pairwise_cons.1 h1).2 (List.pairwise_cons.1 h2).2 fun u hu' v hv => hu u (by simp [hu']) v (by simp [hv])]
end Go.Proofs.YtmpndmjfdijamaaGreatDoor
