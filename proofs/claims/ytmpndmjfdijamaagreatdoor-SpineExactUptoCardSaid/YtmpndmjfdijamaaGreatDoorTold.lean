/- What a spine tells: one multiset, and what its calls do to it. -/
import Derived.Test.YtmpndmjfdijamaaGreatDoorInv
set_option linter.unusedSimpArgs false
namespace Go.Proofs.YtmpndmjfdijamaaGreatDoor
open Go.RowKit Go.Sort
theorem RdZ.vals {w : World} {ok : Blk} {v : Value} {z : List GE} (h : RdZ w ok v z) : ∀ x ∈ z, ∀ y ∈ x.row, y.Ok := by
  intro x hx
  obtain ⟨j, hj⟩ := List.mem_iff_getElem?.1 hx
  obtain ⟨_, _, _, _, _, _, _, _, hr, _⟩ := h.ent hj
  exact hr.all
/-- Two items of one rising list with one row are one. -/
theorem Rise.one {z : List GI} (h : Rise z) {x y : GI} (hx : x ∈ z) (hy : y ∈ z) (hc : x.cmp y = 0) : x = y := by
  obtain ⟨i, hi⟩ := List.mem_iff_getElem?.1 hx
  obtain ⟨j, hj⟩ := List.mem_iff_getElem?.1 hy
  rcases Nat.lt_trichotomy i j with hij | rfl | hij
  · have := h.get hij hi hj; omega
  · rw [hi] at hj; exact Option.some.inj hj
  · have := h.get hij hj hi
    have := (gicmp.eqv x y).1 hc
    omega
theorem ents_one {cols : List Int} {z : List GI} (hz : Rise z) (hi : ∀ u ∈ z, IOk cols u.key u.enc u.row) {xs : List GE} (hp : xs.Perm (z.map GI.ent)) : ∀ u ∈ xs, ∀ v ∈ xs, rlex u.row v.row = 0 → u = v := by
  intro u hu v hv h
  obtain ⟨x, hx, rfl⟩ := List.mem_map.1 (hp.mem_iff.1 hu)
  obtain ⟨y, hy, rfl⟩ := List.mem_map.1 (hp.mem_iff.1 hv)
  obtain ⟨a1, a2, ka, a3, a4⟩ := hi x hx
  obtain ⟨b1, b2, kb, b3, b4⟩ := hi y hy
  have hr : x.row = y.row := rlex_eq a1.2 b1.2 (rsound_at a1.1).2 (rsound_at b1.1).2 h
  have hk : ka = kb := by rw [hr, b3] at a3; exact (Option.some.inj a3).symm
  have : x = y := hz.one hx hy (kcmp_zero.2 ⟨by rw [a4, b4, hk], by rw [a2, b2, hr]⟩)
  rw [this]
theorem allL_ok {cols : List Int} (bs : List (List GI)) (hbs : ∀ z ∈ bs, ∀ u ∈ z, IOk cols u.key u.enc u.row) : ∀ u ∈ allL bs, IOk cols u.key u.enc u.row := by
  have key : ∀ (bs : List (List GI)) (a : List GI), (∀ u ∈ a, IOk cols u.key u.enc u.row) → (∀ z ∈ bs, ∀ u ∈ z, IOk cols u.key u.enc u.row) → ∀ u ∈ bs.foldl mergeL a, IOk cols u.key u.enc u.row := by
    intro bs
    induction bs with
    | nil => intro a ha _; exact ha
    | cons z bs ih => intro a ha hb; exact ih _ (mergeL_all a z ha (hb z (by simp))) fun z' hz' => hb z' (by simp [hz'])
  exact key bs [] (by simp) hbs
/-- Before and behind Compact All tells the same. -/
theorem told_same {cols : List Int} {a b : List (List GI)} (fa : Fine a) (ra : ∀ z ∈ a, ∀ u ∈ z, IOk cols u.key u.enc u.row) (hj : Joins a b) {xs ys : List GE} (hx : xs.Perm ((allL a).map GI.ent)) (hy : ys.Perm ((allL b).map GI.ent))
    (sx : xs.Pairwise fun x y => ¬ rlex y.row x.row < 0) (sy : ys.Pairwise fun x y => ¬ rlex y.row x.row < 0) : ys = xs := by
  have h := all_one fa (hj.fine fa).1 ra (hj.row ra) (fun k e => ((hj.fine fa).2 k e).symm)
  rw [← h] at hy
  exact sorted_one (hy.trans hx.symm) sy sx (ents_one (allL_fine fa).1 (allL_ok a ra) hy)
theorem Inv.sound {S : GS} (h : Inv S) : ∀ z ∈ S.bs, ∀ u ∈ z, rsound u.row = true := fun z hz u hu => (h.row z hz u hu).1.1
theorem lookW_keyed (z : List GI) (k k' e' : ByteArray) : lookW (keyed k z) k' e' = if k' = k then lookW z k' e' else 0 := by
  induction z with
  | nil => unfold keyed; simp [lookW_nil]
  | cons x z ih =>
    unfold keyed at *
    by_cases hk : x.key = k
    · rw [List.filter_cons_of_pos (by simpa using hk)]
      by_cases hx : x.key = k' ∧ x.enc = e'
      · obtain ⟨rfl, rfl⟩ := hx
        rw [lookW_cons_eq, lookW_cons_eq, if_pos hk]
      · rw [lookW_cons_ne _ hx, lookW_cons_ne _ hx, ih]
    · rw [List.filter_cons_of_neg (by simpa using hk), ih]
      split
      · next h => rw [lookW_cons_ne _ (by rintro ⟨h1, _⟩; exact hk (h1.trans h))]
      · rfl
theorem lookS_keyed (bs : List (List GI)) (k k' e' : ByteArray) : lookS (bs.map (keyed k)) k' e' = if k' = k then lookS bs k' e' else 0 := by
  induction bs with
  | nil => split <;> rfl
  | cons z bs ih => rw [List.map_cons, lookS_cons, lookS_cons, ih, lookW_keyed]; split <;> omega
/-- What Get's merging says. -/
theorem getL_look {bs : List (List GI)} (hf : Fine bs) (k : ByteArray) : Rise (getL bs k) ∧ Nz (getL bs k) ∧ ∀ k' e', lookW (getL bs k) k' e' = if k' = k then weightL bs k' e' else 0 := by
  obtain ⟨h1, h2, h3⟩ := foldl_merge (bs.map (keyed k)) [] List.Pairwise.nil (by intro x hx; cases hx) fun z hz => by
    obtain ⟨y, hy, rfl⟩ := List.mem_map.1 hz
    exact ⟨(hf y hy).1.filter _, fun u hu => (hf y hy).2.1 u (List.mem_filter.1 hu).1⟩
  refine ⟨h1, h2, fun k' e' => ?_⟩
  have := h3 k' e'
  rw [lookW_nil, Int.zero_add, lookS_keyed, wrap64_of (lookW_i64 h2 k' e')] at this
  show lookW (List.foldl mergeL [] (bs.map (keyed k))) k' e' = _
  rw [this]
  split
  · rfl
  · exact wrap64_of (by unfold i64; omega)

/-! ### Multisets as lists of entries -/
/-- A row's weight in a list of entries, summed. -/
def zw (z : List GE) (r : List GV) : Int := sumI (fun x => if sameR x.row r = true then x.w else 0) z
theorem zw_nil (r : List GV) : zw [] r = 0 := rfl
theorem zw_cons (x : GE) (z : List GE) (r : List GV) : zw (x :: z) r = (if sameR x.row r = true then x.w else 0) + zw z r := rfl
theorem zw_hit (x : GE) (z : List GE) : zw (x :: z) x.row = x.w + zw z x.row := by rw [zw_cons, if_pos ((sameR_eq _ _).2 rfl)]
theorem zw_miss {x : GE} {r : List GV} (z : List GE) (h : x.row ≠ r) : zw (x :: z) r = zw z r := by rw [zw_cons, if_neg (fun e => h ((sameR_eq _ _).1 e)), Int.zero_add]
theorem zw_app (a b : List GE) (r : List GV) : zw (a ++ b) r = zw a r + zw b r := by
  induction a with
  | nil => rw [zw_nil, Int.zero_add]; rfl
  | cons x a ih => rw [List.cons_append, zw_cons, zw_cons, ih]; omega
theorem zw_perm {a b : List GE} (h : a.Perm b) (r : List GV) : zw a r = zw b r := sumI_perm _ h
theorem zw_none {z : List GE} {r : List GV} (h : ∀ x ∈ z, x.row ≠ r) : zw z r = 0 := by
  induction z with
  | nil => rfl
  | cons x z ih => rw [zw_miss _ (h x (by simp)), ih fun y hy => h y (by simp [hy])]
structure ZOk (z : List GE) : Prop where
  row : ∀ x ∈ z, RowOk x.row
  w : ∀ x ∈ z, x.w ≠ 0
  rise : z.Pairwise fun x y => rlex x.row y.row < 0
theorem ZOk.nil : ZOk [] := ⟨by simp, by simp, List.Pairwise.nil⟩
theorem ZOk.tail {x : GE} {z : List GE} (h : ZOk (x :: z)) : ZOk z := ⟨fun y hy => h.row y (by simp [hy]), fun y hy => h.w y (by simp [hy]), (List.pairwise_cons.1 h.rise).2⟩
theorem ZOk.sub {z y : List GE} (h : ZOk z) (hs : y.Sublist z) : ZOk y := ⟨fun x hx => h.row x (hs.subset hx), fun x hx => h.w x (hs.subset hx), h.rise.sublist hs⟩
theorem ZOk.filter {z : List GE} (h : ZOk z) (p : GE → Bool) : ZOk (z.filter p) := h.sub List.filter_sublist
theorem rlex_ne {r s : List GV} (h : rlex r s < 0) : r ≠ s := by
  rintro rfl
  have := rlex_cmp.refl r
  omega
theorem ZOk.head {x : GE} {z : List GE} (h : ZOk (x :: z)) : zw z x.row = 0 := zw_none fun y hy => (rlex_ne ((List.pairwise_cons.1 h.rise).1 y hy)).symm
theorem ZOk.at {z : List GE} (h : ZOk z) {x : GE} (hx : x ∈ z) : zw z x.row = x.w := by
  induction z with
  | nil => cases hx
  | cons y z ih =>
    rcases List.mem_cons.1 hx with rfl | hx
    · rw [zw_hit, h.head]; omega
    · rw [zw_miss _ (rlex_ne ((List.pairwise_cons.1 h.rise).1 x hx)), ih h.tail hx]
theorem zw_mem {z : List GE} {r : List GV} (h : zw z r ≠ 0) : ∃ x ∈ z, x.row = r := by
  by_cases hx : ∃ x ∈ z, x.row = r
  · exact hx
  · exact absurd (zw_none fun x hm e => hx ⟨x, hm, e⟩) h
/-- Two multisets of one content are one list. -/
theorem zext : ∀ {a b : List GE}, ZOk a → ZOk b → (∀ r, RowOk r → zw a r = zw b r) → a = b
  | [], [], _, _, _ => rfl
  | [], y :: b, _, hb, h => by
    have := h y.row (hb.row y (by simp))
    rw [zw_nil, hb.at (by simp)] at this
    exact absurd this.symm (hb.w y (by simp))
  | x :: a, [], ha, _, h => by
    have := h x.row (ha.row x (by simp))
    rw [zw_nil, ha.at (by simp)] at this
    exact absurd this (ha.w x (by simp))
  | x :: a, y :: b, ha, hb, h => by
    have hx := h x.row (ha.row x (by simp))
    have hy := h y.row (hb.row y (by simp))
    rw [ha.at (by simp)] at hx
    rw [hb.at (by simp)] at hy
    have e : x.row = y.row := by
      obtain ⟨u, hu, eu⟩ := zw_mem (z := y :: b) (r := x.row) (by rw [← hx]; exact ha.w x (by simp))
      obtain ⟨v, hv, ev⟩ := zw_mem (z := x :: a) (r := y.row) (by rw [hy]; exact hb.w y (by simp))
      rcases List.mem_cons.1 hu with rfl | hu
      · exact eu.symm
      · rcases List.mem_cons.1 hv with rfl | hv
        · exact ev
        · have h1 := (List.pairwise_cons.1 hb.rise).1 u hu
          have h2 := (List.pairwise_cons.1 ha.rise).1 v hv
          rw [eu] at h1
          rw [ev] at h2
          have := (rlex_cmp.flip x.row y.row).1 h2
          omega
    have ew : x.w = y.w := by rw [hx, e, hb.at (by simp)]
    have exy : x = y := by cases x; cases y; simp only at e ew; rw [e, ew]
    subst exy
    rw [zext ha.tail hb.tail fun r hr => by
      have := h r hr
      rw [zw_cons, zw_cons] at this
      omega]
theorem pickL_ok {r : List GV} {P : GV → Prop} (hr : ∀ x ∈ r, P x) : ∀ {cols : List Int} {k : List GV}, pickL r cols = some k → k.length = cols.length ∧ ∀ x ∈ k, P x := by
  intro cols
  induction cols with
  | nil => intro k h; simp only [pickL, Option.some.injEq] at h; subst h; exact ⟨rfl, by simp⟩
  | cons i cols ih =>
    intro k h
    unfold pickL at h
    split at h
    · cases h
    · split at h
      · cases h
      · next x hx =>
        obtain ⟨k', hk, rfl⟩ := Option.map_eq_some_iff.1 h
        obtain ⟨h1, h2⟩ := ih hk
        refine ⟨by rw [List.length_cons, h1, List.length_cons], fun y hy => ?_⟩
        rcases List.mem_cons.1 hy with rfl | hy
        · exact hr _ (List.mem_of_getElem? hx)
        · exact h2 y hy
theorem pick_ok {r k : List GV} {cols : List Int} (hr : RowOk r) (h : pick r cols = some k) : RowOk k := by
  unfold pick at h
  split at h
  · next hc =>
    obtain ⟨h1, h2⟩ := pickL_ok (P := fun x => x.Ok ∧ vsound x = true) (fun x hx => ⟨hr.2 x hx, (rsound_at hr.1).2 x hx⟩) h
    refine ⟨?_, fun x hx => (h2 x hx).1⟩
    unfold rsound
    rw [Bool.and_eq_true, decide_eq_true_eq, Bool.not_eq_true', List.any_eq_false]
    exact ⟨by omega, fun x hx => by rw [(h2 x hx).2]; simp⟩
  · cases h
theorem exists_sorted (l : List GE) : ∃ z : List GE, z.Perm l ∧ z.Pairwise fun x y => ¬ rlex y.row x.row < 0 := by
  have ht : ∀ a b : GE, ¬ rlex b.row a.row < 0 ↔ rlex a.row b.row ≤ 0 := fun a b => by
    have := rlex_cmp.flip b.row a.row
    omega
  refine ⟨l.mergeSort fun a b => decide (rlex a.row b.row ≤ 0), List.mergeSort_perm _ _, ?_⟩
  refine (List.pairwise_mergeSort (fun a b c h1 h2 => ?_) (fun a b => ?_) l).imp fun {a b} h => (ht a b).2 (of_decide_eq_true h)
  · exact decide_eq_true (rlex_cmp.trans _ _ _ (of_decide_eq_true h1) (of_decide_eq_true h2))
  · have := rlex_cmp.flip a.row b.row
    by_cases h : rlex a.row b.row ≤ 0
    · rw [decide_eq_true h]; rfl
    · have h2 : rlex b.row a.row ≤ 0 := by
        have := rlex_cmp.flip b.row a.row
        omega
      rw [decide_eq_true h2]; simp
theorem row_cmp {cols : List Int} {u v : GI} (hu : IOk cols u.key u.enc u.row) (hv : IOk cols v.key v.enc v.row) (h : u.row = v.row) : u.cmp v = 0 := by
  obtain ⟨_, e1, k1, p1, q1⟩ := hu
  obtain ⟨_, e2, k2, p2, q2⟩ := hv
  rw [h, p2] at p1
  have := Option.some.inj p1
  exact kcmp_zero.2 ⟨by rw [q1, q2, this], by rw [e1, e2, h]⟩
theorem ent_zw {cols : List Int} {r key : List GV} (hr : RowOk r) (hk : pick r cols = some key) : ∀ {a : List GI}, Rise a → (∀ u ∈ a, IOk cols u.key u.enc u.row) → zw (a.map GI.ent) r = lookW a (encB key) (encB r)
  | [], _, _ => rfl
  | x :: a, ha, hi => by
    obtain ⟨o, e1, k1, p1, q1⟩ := hi x (by simp)
    by_cases h : x.row = r
    · subst h
      rw [hk] at p1
      have hkk := Option.some.inj p1
      subst hkk
      rw [← q1, ← e1, lookW_cons_eq, List.map_cons]
      have h0 : zw (a.map GI.ent) x.row = 0 := zw_none fun y hy e => by
        obtain ⟨v, hv, rfl⟩ := List.mem_map.1 hy
        have h1 := ha.head v hv
        have h2 := row_cmp (hi x (by simp)) (hi v (by simp [hv])) e.symm
        omega
      show zw (⟨x.row, x.size⟩ :: _) x.row = _
      rw [zw_hit ⟨x.row, x.size⟩, h0]
      exact Int.add_zero _
    · rw [lookW_cons_ne _ (fun h2 => h (encB_inj o hr (by rw [← e1, h2.2]))), List.map_cons, zw_miss (x := x.ent) _ h, ent_zw hr hk ha.tail fun u hu => hi u (by simp [hu])]
theorem gi_zok {cols : List Int} {a : List GI} (h : Rise a) (n : Nz a) (hi : ∀ u ∈ a, IOk cols u.key u.enc u.row) {xs : List GE} (hp : xs.Perm (a.map GI.ent)) (hs : xs.Pairwise fun x y => ¬ rlex y.row x.row < 0) : ZOk xs where
  row := fun x hx => by
    obtain ⟨u, hu, rfl⟩ := List.mem_map.1 (hp.mem_iff.1 hx)
    exact (hi u hu).1
  w := fun x hx => by
    obtain ⟨u, hu, rfl⟩ := List.mem_map.1 (hp.mem_iff.1 hx)
    exact (n u hu).1
  rise := by
    have h1 : a.Pairwise fun u v => rlex u.row v.row ≠ 0 := h.imp_of_mem fun {u v} hu hv hc h0 => by
      have hr := rlex_eq (hi u hu).1.2 (hi v hv).1.2 (rsound_at (hi u hu).1.1).2 (rsound_at (hi v hv).1.1).2 h0
      have := row_cmp (hi u hu) (hi v hv) hr
      omega
    have h2 : (a.map GI.ent).Pairwise fun x y => rlex x.row y.row ≠ 0 := List.pairwise_map.2 h1
    have h3 := (hp.pairwise_iff (fun {x y} h h0 => h ((rlex_cmp.eqv x.row y.row).2 h0))).2 h2
    exact (hs.and h3).imp fun {x y} ⟨h4, h5⟩ => by
      have := rlex_cmp.flip y.row x.row
      omega
/-- The spine S holds the multiset z. -/
structure Told (S : GS) (z : List GE) : Prop where
  ok : ZOk z
  key : ∀ x ∈ z, ∃ k, pick x.row S.cols = some k
  eq : ∀ r k, RowOk r → pick r S.cols = some k → zw z r = weightL S.bs (encB k) (encB r)
theorem told_of {S : GS} (hi : Inv S) {xs : List GE} (hp : xs.Perm ((allL S.bs).map GI.ent)) (hs : xs.Pairwise fun x y => ¬ rlex y.row x.row < 0) : Told S xs := by
  obtain ⟨a1, a2, a3⟩ := allL_fine hi.fine
  have ha := allL_ok S.bs hi.row
  refine ⟨gi_zok a1 a2 ha hp hs, fun x hx => ?_, fun r k hr hk => ?_⟩
  · obtain ⟨u, hu, rfl⟩ := List.mem_map.1 (hp.mem_iff.1 hx)
    obtain ⟨_, _, k, hk, _⟩ := ha u hu
    exact ⟨k, hk⟩
  · rw [zw_perm hp, ent_zw hr hk a1 ha, a3]
theorem told_one {S : GS} {a b : List GE} (ha : Told S a) (hb : Told S b) : a = b := zext ha.ok hb.ok fun r hr => by
  cases hk : pick r S.cols with
  | none =>
    rw [zw_none fun x hx e => ?_, zw_none fun x hx e => ?_]
    · obtain ⟨k, h⟩ := hb.key x hx
      rw [e, hk] at h; cases h
    · obtain ⟨k, h⟩ := ha.key x hx
      rw [e, hk] at h; cases h
  | some k => rw [ha.eq r k hr hk, hb.eq r k hr hk]
theorem told_exists {S : GS} (hi : Inv S) : ∃ z, Told S z ∧ S.live = z.length := by
  obtain ⟨z, hp, hs⟩ := exists_sorted ((allL S.bs).map GI.ent)
  refine ⟨z, told_of hi hp hs, ?_⟩
  rw [hp.length_eq, List.length_map]
  exact hi.live
theorem told_len {S : GS} {z : List GE} (hi : Inv S) (ht : Told S z) : S.live = z.length := by
  obtain ⟨y, h1, h2⟩ := told_exists hi
  rw [told_one ht h1]; exact h2
theorem told_all {S : GS} {z xs : List GE} (hi : Inv S) (ht : Told S z) (hp : xs.Perm ((allL S.bs).map GI.ent)) (hs : xs.Pairwise fun x y => ¬ rlex y.row x.row < 0) : xs = z := told_one (told_of hi hp hs) ht
theorem told_new (cols : List Int) : Told ⟨cols, [], 0⟩ [] := ⟨ZOk.nil, by simp, fun r k _ _ => by rw [weightL_nil]; rfl⟩
theorem told_joins {S S' : GS} {z : List GE} (ht : Told S z) (hf : Fine S.bs) (hj : Joins S.bs S'.bs) (hc : S'.cols = S.cols) : Told S' z := ⟨ht.ok, by rw [hc]; exact ht.key, fun r k hr hk => by rw [(hj.fine hf).2]; exact ht.eq r k hr (by rw [← hc]; exact hk)⟩
/-- Has a row this key? -/
def keyIs (cols : List Int) (key r : List GV) : Bool := match pick r cols with
  | some k => sameR k key
  | none => false
theorem told_get {S : GS} {z : List GE} (hi : Inv S) (ht : Told S z) {key : List GV} (hkey : RowOk key) {xs : List GE} (hp : xs.Perm ((getL S.bs (encB key)).map GI.ent)) (hs : xs.Pairwise fun x y => ¬ rlex y.row x.row < 0) :
    xs = z.filter fun x => keyIs S.cols key x.row := by
  obtain ⟨g1, g2, g3⟩ := getL_look hi.fine (encB key)
  have hg : ∀ u ∈ getL S.bs (encB key), IOk S.cols u.key u.enc u.row := allL_ok _ fun z hz u hu => by
    obtain ⟨y, hy, rfl⟩ := List.mem_map.1 hz
    exact hi.row y hy u (List.mem_filter.1 hu).1
  have hx := gi_zok g1 g2 hg hp hs
  refine zext hx (ht.ok.filter _) fun r hr => ?_
  have hz : zw (z.filter fun x => keyIs S.cols key x.row) r = if keyIs S.cols key r = true then zw z r else 0 := by
    clear hp hs hx ht
    induction z with
    | nil => simp [zw_nil]
    | cons x z ih =>
      by_cases h : keyIs S.cols key x.row = true
      · rw [List.filter_cons_of_pos (p := fun x : GE => keyIs S.cols key x.row) h, zw_cons, zw_cons, ih]
        by_cases e : sameR x.row r = true
        · rw [← (sameR_eq _ _).1 e, h]; simp
        · rw [if_neg e]; split <;> omega
      · rw [List.filter_cons_of_neg (p := fun x : GE => keyIs S.cols key x.row) h, zw_cons, ih]
        by_cases e : sameR x.row r = true
        · rw [← (sameR_eq _ _).1 e, if_neg h, if_neg h]
        · rw [if_neg e]; split <;> omega
  rw [hz]
  unfold keyIs
  cases hk : pick r S.cols with
  | none =>
    rw [zw_none fun x hx' e => ?_]
    · simp
    · obtain ⟨u, hu, rfl⟩ := List.mem_map.1 (hp.mem_iff.1 hx')
      obtain ⟨_, _, k, h, _⟩ := hg u hu
      rw [show u.row = r from e, hk] at h; cases h
  | some k =>
    rw [zw_perm hp, ent_zw hr hk g1 hg, g3, ht.eq r k hr hk]
    by_cases e : k = key
    · subst e
      rw [if_pos rfl, if_pos ((sameR_eq _ _).2 rfl)]
    · rw [if_neg (fun h => e (encB_inj (pick_ok hr hk) hkey h)), if_neg (fun h => e ((sameR_eq _ _).1 h))]
theorem told_weight {S : GS} {z : List GE} (ht : Told S z) {r : List GV} (hr : RowOk r) : weightOf S r = zw z r := by
  unfold weightOf
  cases hk : pick r S.cols with
  | none =>
    rw [zw_none fun x hx e => ?_]
    obtain ⟨k, h⟩ := ht.key x hx
    rw [e, hk] at h; cases h
  | some k => exact (ht.eq r k hr hk).symm
def FairZ (z : List GE) : Prop := ∀ x ∈ z, fair x.w = true
theorem FairZ.at {z : List GE} (h : FairZ z) (hz : ZOk z) (r : List GV) : fair (zw z r) = true := by
  by_cases h0 : zw z r = 0
  · rw [h0]; decide
  · obtain ⟨x, hx, rfl⟩ := zw_mem h0
    rw [hz.at hx]; exact h x hx
theorem zsound_ok {z : List GE} (h : zsound z = true) (hv : ∀ x ∈ z, ∀ y ∈ x.row, y.Ok) : ZOk z ∧ FairZ z := by
  obtain ⟨h1, h2⟩ := zsound_parts h
  exact ⟨⟨fun x hx => ⟨(h1 x hx).2.2, hv x hx⟩, fun x hx => (h1 x hx).1, h2⟩, fun x hx => (h1 x hx).2.1⟩
/-- What Put answers. -/
def putE (cols : List Int) (z d : List GE) : Int :=
  if zsound d = false ∨ (d.any fun x => (pick x.row cols).isNone) = true then 1 else if (d.any fun x => overW (zw z x.row) x.w) = true then 11 else 0
theorem itemsL_none {cols : List Int} : ∀ {d : List GE}, itemsL cols d = none ↔ (d.any fun x => (pick x.row cols).isNone) = true
  | [] => by simp [itemsL]
  | x :: d => by
    rw [itemsL, List.any_cons, Bool.or_eq_true, ← itemsL_none]
    unfold itemG
    cases pick x.row cols with
    | none => simp
    | some k => simp
theorem itemsL_ent {cols : List Int} : ∀ {d : List GE} {xs : List GI}, itemsL cols d = some xs → xs.map GI.ent = d
  | [], xs, h => by
    simp only [itemsL, Option.some.injEq] at h
    subst h; rfl
  | x :: d, xs, h => by
    rw [itemsL] at h
    split at h
    · cases h
    · next y hy =>
      obtain ⟨ys, h1, rfl⟩ := Option.map_eq_some_iff.1 h
      obtain ⟨key, _, rfl⟩ := itemG_some hy
      rw [List.map_cons, itemsL_ent h1]
      rfl
theorem liveL_none {bs : List (List GI)} : ∀ {xs : List GI} {l : Int}, liveL bs l xs = none ↔ (xs.any fun x => overW (weightL bs x.key x.enc) x.size) = true
  | [], l => by simp [liveL]
  | x :: xs, l => by
    rw [liveL, List.any_cons, Bool.or_eq_true]
    by_cases h : overW (weightL bs x.key x.enc) x.size = true
    · rw [if_pos h]; simp [h]
    · rw [if_neg h, liveL_none]; simp [h]
theorem items_over {S : GS} {z d : List GE} {xs : List GI} (ht : Told S z) (hx : itemsL S.cols d = some xs) (hd : ∀ x ∈ d, RowOk x.row) : (xs.any fun x => overW (weightL S.bs x.key x.enc) x.size) = d.any fun x => overW (zw z x.row) x.w := by
  have h1 := itemsL_ent hx
  subst h1
  rw [List.any_map]
  have : ∀ u ∈ xs, overW (weightL S.bs u.key u.enc) u.size = overW (zw z u.row) u.size := fun u hu => by
    obtain ⟨x, hxm, hg⟩ := (itemsL_parts hx).1 u hu
    obtain ⟨key, hk, rfl⟩ := itemG_some hg
    rw [ht.eq x.row key (hd x hxm) hk]
  rw [Bool.eq_iff_iff, List.any_eq_true, List.any_eq_true]
  exact ⟨fun ⟨u, hu, h⟩ => ⟨u, hu, by rw [this u hu] at h; exact h⟩, fun ⟨u, hu, h⟩ => ⟨u, hu, by rw [this u hu]; exact h⟩⟩
/-- z' is the sum of z and d. -/
def ZSum (z d z' : List GE) : Prop := ∀ r, RowOk r → zw z' r = zw z r + zw d r
theorem over_fair {o s : Int} (ho : fair o = true) (hs : fair s = true) (h : overW o s = false) : fair (o + s) = true := by
  unfold fair at *
  unfold overW at h
  simp only [Bool.and_eq_true, decide_eq_true_eq, Bool.or_eq_false_iff, Bool.and_eq_false_iff, decide_eq_false_iff_not] at *
  omega
theorem fair_over {o s : Int} (h : fair (o + s) = true) : overW o s = false := by
  unfold fair at h
  unfold overW
  simp only [Bool.and_eq_true, decide_eq_true_eq, Bool.or_eq_false_iff, Bool.and_eq_false_iff, decide_eq_false_iff_not] at *
  omega
/-- Put, told by multisets. -/
theorem told_put {base b : Nat} {S : GS} {z d : List GE} {w w' : World} {e : Ending} (hi : Inv S) (ht : Told S z) (hf : FairZ z) (ho : ∀ x ∈ d, ∀ v ∈ x.row, v.Ok) (h : PutPost base b S d w e w') :
    Mut base b w w' ∧ e = .returned (.int .i64 (putE S.cols z d)) ∧ ∃ S', SpAt base b w' S' ∧ Inv S' ∧ S'.cols = S.cols ∧ heldL S'.bs ≤ heldL S.bs + d.length ∧ S'.live ≤ S.live + d.length ∧
      ∃ z', Told S' z' ∧ FairZ z' ∧ (putE S.cols z d ≠ 0 → z' = z) ∧ (putE S.cols z d = 0 → ZSum z d z') := by
  obtain ⟨hm, h⟩ := h
  refine ⟨hm, ?_⟩
  split at h
  · next hz =>
    have hE : putE S.cols z d = 1 := by unfold putE; rw [if_pos (.inl hz)]
    rw [hE]
    exact ⟨h.1, S, h.2, hi, rfl, by omega, by omega, z, ht, hf, fun _ => rfl, fun h => absurd h (by decide)⟩
  · next hz =>
    have hz : zsound d = true := by simpa using hz
    split at h
    · next hxs =>
      have hE : putE S.cols z d = 1 := by unfold putE; rw [if_pos (.inr (itemsL_none.1 hxs))]
      rw [hE]
      exact ⟨h.1, S, h.2, hi, rfl, by omega, by omega, z, ht, hf, fun _ => rfl, fun h => absurd h (by decide)⟩
    · next xs hxs =>
      obtain ⟨i1, i2, i3⟩ := items_ok hz ho hxs
      obtain ⟨zd, fd⟩ := zsound_ok hz ho
      have hno : ¬ (zsound d = false ∨ (d.any fun x => (pick x.row S.cols).isNone) = true) := by
        rintro (h | h)
        · rw [hz] at h; cases h
        · rw [itemsL_none.2 h] at hxs; cases hxs
      have hov := items_over ht hxs zd.row
      have hlen : xs.length = d.length := by have := congrArg List.length (itemsL_parts hxs).2; simpa using this
      split at h
      · next hl =>
        have hE : putE S.cols z d = 11 := by unfold putE; rw [if_neg hno, if_pos (by rw [← hov]; exact liveL_none.1 hl)]
        rw [hE]
        exact ⟨h.1, S, h.2, hi, rfl, by omega, by omega, z, ht, hf, fun _ => rfl, fun h => absurd h (by decide)⟩
      · next live hl =>
        have hnov : ¬ (d.any fun x => overW (zw z x.row) x.w) = true := fun h => by
          rw [← hov] at h
          rw [liveL_none.2 h] at hl; cases hl
        have hE : putE S.cols z d = 0 := by unfold putE; rw [if_neg hno, if_neg hnov]
        rw [hE]
        obtain ⟨he, bs1, bs2, hb, hj, hh, hs⟩ := h
        have hfs : ∀ r, fair (zw z r + zw d r) = true := fun r => by
          by_cases h0 : zw d r = 0
          · rw [h0, Int.add_zero]; exact hf.at ht.ok r
          · obtain ⟨x, hx, rfl⟩ := zw_mem h0
            refine over_fair (hf.at ht.ok _) (fd.at zd _) ?_
            rw [zd.at hx]
            have := List.any_eq_false.1 (by simpa using hnov) x hx
            simpa using this
        have fin : ∀ {S' : GS}, Inv S' → (∀ r k, RowOk r → pick r S'.cols = some k → weightL S'.bs (encB k) (encB r) = zw z r + zw d r) → S'.cols = S.cols → ∃ z', Told S' z' ∧ FairZ z' ∧ ((0 : Int) ≠ 0 → z' = z) ∧ ((0 : Int) = 0 → ZSum z d z') := by
          intro S' hI hw hcc
          obtain ⟨z', h1, _⟩ := told_exists hI
          have hsum : ZSum z d z' := fun r hr => by
            cases hk : pick r S'.cols with
            | some k => rw [h1.eq r k hr hk, hw r k hr hk]
            | none =>
              rw [zw_none fun x hx e => ?_, zw_none fun x hx e => ?_, zw_none fun x hx e => ?_]
              · rfl
              · have h0 : itemsL S.cols d ≠ none := by rw [hxs]; simp
                refine h0 (itemsL_none.2 (List.any_eq_true.2 ⟨x, hx, ?_⟩))
                rw [e, ← hcc, hk]; rfl
              · obtain ⟨k, h⟩ := ht.key x hx
                rw [e, ← hcc, hk] at h; cases h
              · obtain ⟨k, h⟩ := h1.key x hx
                rw [e, hk] at h; cases h
          exact ⟨z', h1, fun x hx => by rw [← h1.ok.at hx, hsum _ (h1.ok.row x hx)]; exact hfs _, fun h => absurd rfl h, fun _ => hsum⟩
        split at hb
        · next hx0 =>
          subst hb hx0
          have hd0 : d = [] := by simpa using hlen.symm
          have hl' : live = S.live := by simp only [liveL, Option.some.injEq] at hl; exact hl.symm
          have hI := hj.inv hi.fine hi.row (hl'.trans hi.live) hh
          refine ⟨he, _, hs, hI, rfl, by have := hj.held; simp only; omega, by simp only; omega, fin hI (fun r k hr hk => ?_) rfl⟩
          rw [(hj.fine hi.fine).2, ← ht.eq r k hr hk, hd0, zw_nil, Int.add_zero]
        · next hx0 =>
          obtain ⟨ys, hp, hso, rfl⟩ := hb
          have hr := perm_rise hp i3 hso
          have hf' : Fine (S.bs ++ [ys]) := fun y hy => by
            rcases List.mem_append.1 hy with hy | hy
            · exact hi.fine y hy
            · rw [List.mem_singleton.1 hy]
              exact ⟨hr, fun u hu => i2 u (hp.mem_iff.1 hu), fun h0 => hx0 (by rw [h0] at hp; exact hp.symm.eq_nil)⟩
          have hys : ∀ u ∈ ys, IOk S.cols u.key u.enc u.row := fun u hu => i1 u (hp.mem_iff.1 hu)
          have hrow : ∀ y ∈ S.bs ++ [ys], ∀ u ∈ y, IOk S.cols u.key u.enc u.row := fun y hy u hu => by
            rcases List.mem_append.1 hy with hy | hy
            · exact hi.row y hy u hu
            · rw [List.mem_singleton.1 hy] at hu
              exact hys u hu
          have hc := put_count hi.fine hp hr hi.live hl
          have hI := hj.inv hf' hrow hc hh
          have hhe := hj.held
          rw [heldL_app] at hhe
          simp only [heldL] at hhe
          have hpl := hp.length_eq
          have h1 : allL (S.bs ++ [ys]) = mergeL (allL S.bs) ys := by unfold allL; rw [List.foldl_append]; rfl
          have h2 := mergeL_length (allL S.bs) ys
          have h3 := hi.live
          rw [h1] at hc
          refine ⟨he, _, hs, hI, rfl, by simp only; omega, by simp only; omega, fin hI (fun r k hrr hk => ?_) rfl⟩
          have e1 : zw d r = lookW ys (encB k) (encB r) := by rw [← itemsL_ent hxs, ← zw_perm (hp.map _), ent_zw hrr hk hr hys]
          have e2 : lookS [ys] (encB k) (encB r) = lookW ys (encB k) (encB r) := by rw [lookS_cons]; exact Int.add_zero _
          rw [(hj.fine hf').2, weightL_S, lookS_app, ← wrap64_add, ← weightL_S, ← ht.eq r k hrr hk, e2, ← e1]
          exact wrap64_of (fair_i64 (hfs r))
end Go.Proofs.YtmpndmjfdijamaaGreatDoor
