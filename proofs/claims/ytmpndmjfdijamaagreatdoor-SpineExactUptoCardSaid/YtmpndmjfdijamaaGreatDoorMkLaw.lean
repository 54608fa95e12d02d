/- The plain law of zset.Make: groups of one row, summed; what Make answers. -/
import Derived.Test.YtmpndmjfdijamaaGreatDoorTold
import Derived.Test.YtmpndmjfdijamaaGreatDoorZm
set_option linter.unusedSimpArgs false
set_option linter.unusedVariables false
namespace Go.Proofs.YtmpndmjfdijamaaGreatDoor
open Go.RowKit Go.Sort
/-- What Make has made of the first p entries of a sorted list. -/
structure MkSt (xs : List GE) (p : Nat) (outs : List GE) : Prop where
  ok : ZOk outs
  fz : FairZ outs
  sum : ∀ r, zw outs r = zw (xs.take p) r
  mem : ∀ x ∈ outs, ∃ y ∈ xs.take p, y.row = x.row
  lt : ∀ x ∈ xs.take p, ∀ y ∈ xs.drop p, rlex x.row y.row < 0
  fin : ∀ x ∈ xs.take p, fair (zw xs x.row) = true
theorem MkSt.first (xs : List GE) : MkSt xs 0 [] := ⟨ZOk.nil, fun x hx => (by cases hx), fun r => rfl, fun x hx => (by cases hx), fun x hx => (by simp at hx), fun x hx => (by simp at hx)⟩
theorem zw_same {g : List GE} {r : List GV} (h : ∀ x ∈ g, x.row = r) : zw g r = sumI GE.w g := by
  induction g with
  | nil => rfl
  | cons x g ih =>
    have hx := h x (by simp)
    subst hx
    rw [zw_hit, ih fun y hy => h y (by simp [hy])]
    rfl
/-- A group's sum is the row's weight. -/
theorem group_sum {xs outs : List GE} {p n : Nat} {r : List GV} (h : MkSt xs p outs) (hn : 0 < n) (hpn : p + n ≤ xs.length) (hg : ∀ x ∈ (xs.drop p).take n, x.row = r) (hr : ∀ y ∈ xs.drop (p + n), rlex r y.row < 0) :
    zw xs r = sumI GE.w ((xs.drop p).take n) := by
  have e : xs = xs.take p ++ ((xs.drop p).take n ++ xs.drop (p + n)) := by
    have h1 := List.take_append_drop p xs
    have h2 := List.take_append_drop n (xs.drop p)
    rw [List.drop_drop] at h2
    rw [h2, h1]
  conv => lhs; rw [e]
  rw [zw_app, zw_app, zw_same hg, zw_none (z := xs.take p) fun x hx er => ?_, zw_none (z := xs.drop (p + n)) fun y hy er => ?_]
  · omega
  · have := hr y hy
    rw [er] at this
    exact rlex_ne this rfl
  · have hm : ∃ y, y ∈ (xs.drop p).take n := by
      have hl : 0 < ((xs.drop p).take n).length := by rw [List.length_take, List.length_drop]; omega
      exact ⟨_, List.getElem_mem hl⟩
    obtain ⟨y, hy⟩ := hm
    have := h.lt x hx y (List.mem_of_mem_take hy)
    rw [hg y hy, er] at this
    exact rlex_ne this rfl
theorem MkSt.step {xs outs : List GE} {p n : Nat} {r : List GV} {s : Int} (h : MkSt xs p outs) (hn : 0 < n) (hpn : p + n ≤ xs.length) (hok : RowOk r) (hg : ∀ x ∈ (xs.drop p).take n, x.row = r) (hr : ∀ y ∈ xs.drop (p + n), rlex r y.row < 0)
    (hs : s = sumI GE.w ((xs.drop p).take n)) (hf : fair s = true) : MkSt xs (p + n) (if s = 0 then outs else outs ++ [⟨r, s⟩]) := by
  have hsum := group_sum h hn hpn hg hr
  rw [← hs] at hsum
  have htk : xs.take (p + n) = xs.take p ++ (xs.drop p).take n := List.take_add
  have hgw : ∀ q, zw ((xs.drop p).take n) q = if sameR r q = true then s else 0 := fun q => by
    by_cases hq : r = q
    · subst hq
      rw [if_pos ((sameR_eq _ _).2 rfl), hs, zw_same hg]
    · rw [if_neg fun e => hq ((sameR_eq _ _).1 e), zw_none fun x hx e => hq ((hg x hx).symm.trans e)]
  obtain ⟨y0, hy0⟩ : ∃ y, y ∈ (xs.drop p).take n := by
    have hl : 0 < ((xs.drop p).take n).length := by rw [List.length_take, List.length_drop]; omega
    exact ⟨_, List.getElem_mem hl⟩
  have hlt : ∀ x ∈ outs, rlex x.row r < 0 := fun x hx => by
    obtain ⟨y, hy, e⟩ := h.mem x hx
    have := h.lt y hy y0 (List.mem_of_mem_take hy0)
    rw [hg y0 hy0, e] at this
    exact this
  have h1 : ∀ x ∈ xs.take (p + n), ∀ y ∈ xs.drop (p + n), rlex x.row y.row < 0 := fun x hx y hy => by
    rw [htk] at hx
    rcases List.mem_append.1 hx with hx | hx
    · refine h.lt x hx y ?_
      rw [← List.drop_drop] at hy
      exact List.mem_of_mem_drop hy
    · rw [hg x hx]; exact hr y hy
  have h2 : ∀ x ∈ xs.take (p + n), fair (zw xs x.row) = true := fun x hx => by
    rw [htk] at hx
    rcases List.mem_append.1 hx with hx | hx
    · exact h.fin x hx
    · rw [hg x hx, hsum]; exact hf
  by_cases h0 : s = 0
  · rw [if_pos h0]
    refine ⟨h.ok, h.fz, fun q => ?_, fun x hx => ?_, h1, h2⟩
    · rw [htk, zw_app, h.sum, hgw]; split <;> omega
    · obtain ⟨y, hy, e⟩ := h.mem x hx
      exact ⟨y, by rw [htk]; exact List.mem_append_left _ hy, e⟩
  · rw [if_neg h0]
    refine ⟨⟨fun x hx => ?_, fun x hx => ?_, ?_⟩, fun x hx => ?_, fun q => ?_, fun x hx => ?_, h1, h2⟩
    · rcases List.mem_append.1 hx with hx | hx
      · exact h.ok.row x hx
      · rw [List.mem_singleton.1 hx]; exact hok
    · rcases List.mem_append.1 hx with hx | hx
      · exact h.ok.w x hx
      · rw [List.mem_singleton.1 hx]; exact h0
    · rw [List.pairwise_append]
      refine ⟨h.ok.rise, List.pairwise_singleton _ _, fun x hx y hy => ?_⟩
      rw [List.mem_singleton.1 hy]
      exact hlt x hx
    · rcases List.mem_append.1 hx with hx | hx
      · exact h.fz x hx
      · rw [List.mem_singleton.1 hx]; exact hf
    · rw [htk, zw_app, zw_app, h.sum, hgw]
      show _ + ((if sameR r q = true then s else 0) + 0) = _
      omega
    · rcases List.mem_append.1 hx with hx | hx
      · obtain ⟨y, hy, e⟩ := h.mem x hx
        exact ⟨y, by rw [htk]; exact List.mem_append_left _ hy, e⟩
      · rw [List.mem_singleton.1 hx]
        exact ⟨y0, by rw [htk]; exact List.mem_append_right _ hy0, hg y0 hy0⟩
/-- Make's answer: z is the multiset of the entries l. -/
structure Made (l z : List GE) : Prop where
  ok : ZOk z
  fz : FairZ z
  sum : ∀ r, zw z r = zw l r
theorem MkSt.made {l xs outs : List GE} (h : MkSt xs xs.length outs) (hp : xs.Perm l) : Made l outs := ⟨h.ok, h.fz, fun r => by rw [h.sum, List.take_length, zw_perm hp]⟩
theorem Made.one {l a b : List GE} (ha : Made l a) (hb : Made l b) : a = b := zext ha.ok hb.ok fun r _ => by rw [ha.sum, hb.sum]
/-- Is a row's sum too great? -/
def overL (l : List GE) : Bool := l.any fun x => !fair (zw l x.row)
theorem MkSt.notOver {l xs outs : List GE} (h : MkSt xs xs.length outs) (hp : xs.Perm l) : overL l = false := by
  unfold overL
  rw [List.any_eq_false]
  intro x hx
  have := h.fin x (by rw [List.take_length]; exact hp.mem_iff.2 hx)
  rw [zw_perm hp] at this
  rw [this]; simp
theorem over_at {l xs : List GE} (hp : xs.Perm l) {x : GE} (hx : x ∈ xs) (hf : fair (zw xs x.row) = false) : overL l = true := by
  unfold overL
  rw [List.any_eq_true]
  exact ⟨x, hp.mem_iff.1 hx, by rw [← zw_perm hp, hf]; rfl⟩
theorem sumI_app {α : Type} (f : α → Int) (a b : List α) : sumI f (a ++ b) = sumI f a + sumI f b := by
  induction a with
  | nil => rw [List.nil_append]; show _ = 0 + _; omega
  | cons x a ih => rw [List.cons_append, sumI, sumI, ih]; omega
theorem sum_bound {g : List GE} (h : ∀ x ∈ g, fair x.w = true) : -(4611686018427387904 * (g.length : Int)) ≤ sumI GE.w g ∧ sumI GE.w g ≤ 4611686018427387904 * (g.length : Int) := by
  induction g with
  | nil => simp [sumI]
  | cons x g ih =>
    have h1 := ih fun y hy => h y (by simp [hy])
    have h2 := h x (by simp)
    unfold fair at h2
    simp only [Bool.and_eq_true, decide_eq_true_eq] at h2
    rw [sumI, List.length_cons]
    push_cast
    omega
/-- What Make answers. -/
def MakePost (l : List GE) (w : World) (e : Ending) (w' : World) : Prop := Below w.heap.size w w' ∧
  if l.any badE = true then e = .returned (.tuple #[.slice none 0 0, .int .i64 1])
  else if overL l = true then e = .returned (.tuple #[.slice none 0 0, .int .i64 11])
  else ∃ v z, e = .returned (.tuple #[v, .int .i64 0]) ∧ Made l z ∧ RdZ2 w' w.heap.size v z ∧ z.length ≤ l.length
theorem badE_ok {l : List GE} (h : l.any badE = false) : ∀ x ∈ l, fair x.w = true ∧ rsound x.row = true := fun x hx => by
  have := List.any_eq_false.1 h x hx
  unfold badE at this
  cases h1 : fair x.w <;> cases h2 : rsound x.row <;> simp_all
theorem set2_heap {w : World} {k : Nat} {a b a' b' : Value} {T : TypeId} (h : w.heap[k]? = some (.cells #[a, b] T (0, 0))) : ((w.setCell ⟨k, 0, none⟩ a').setCell ⟨k, 1, none⟩ b').heap[k]? = some (.cells #[a', b'] T (0, 0)) := by
  have h1 := heap_setCell_same w k 0 _ T a' h
  have h2 := heap_setCell_same _ k 1 _ T b' h1
  simpa using h2
theorem pair_cells {w : World} {k : Nat} {a b : Value} {T : TypeId} (h : w.heap[k]? = some (.cells #[a, b] T (0, 0))) : w.cell? ⟨k, 0, none⟩ = some a ∧ w.cell? ⟨k, 1, none⟩ = some b ∧ w.frozen? ⟨k, 0, none⟩ = false ∧ w.frozen? ⟨k, 1, none⟩ = false := by
  refine ⟨?_, ?_, Lib.frozen_of_heap h 0, Lib.frozen_of_heap h 1⟩ <;> rw [Lib.cell_of_heap h] <;> rfl
theorem MakePost.bad {l : List GE} {w w' : World} (hB : Below w.heap.size w w') (h : l.any badE = true) : MakePost l w (.returned (.tuple #[.slice none 0 0, .int .i64 1])) w' := ⟨hB, by rw [if_pos h]⟩
theorem MakePost.over {l : List GE} {w w' : World} (hB : Below w.heap.size w w') (h : l.any badE = false) (h2 : overL l = true) : MakePost l w (.returned (.tuple #[.slice none 0 0, .int .i64 11])) w' := ⟨hB, by rw [if_neg (by rw [h]; simp), if_pos h2]⟩
theorem MakePost.good {l : List GE} {w w' : World} (hB : Below w.heap.size w w') (h : l.any badE = false) (h2 : overL l = false) {v : Value} {z : List GE} (hM : Made l z) (hR : RdZ2 w' w.heap.size v z) (hl : z.length ≤ l.length) : MakePost l w (.returned (.tuple #[v, .int .i64 0])) w' := ⟨hB, by rw [if_neg (by rw [h]; simp), if_neg (by rw [h2]; simp)]; exact ⟨v, z, rfl, hM, hR, hl⟩⟩
theorem zsound0_of : ∀ {z : List GE} {p : Option GE}, ZOk z → FairZ z → (∀ y, p = some y → rsound y.row = true ∧ ∀ x ∈ z, rlex y.row x.row < 0) → zsound0 p z = true
  | [], _, _, _, _ => rfl
  | x :: z, p, h, hf, hp => by
    have hx := h.row x (by simp)
    have h2 := zsound0_of (z := z) (p := some x) h.tail (fun y hy => hf y (by simp [hy])) fun y hy => by
      rw [← Option.some.inj hy]
      exact ⟨hx.1, fun u hu => (List.pairwise_cons.1 h.rise).1 u hu⟩
    rw [zsound0, h2, Bool.and_true]
    unfold entOk
    rw [hf x (by simp), hx.1, beq_eq_false_iff_ne.2 (h.w x (by simp))]
    cases p with
    | none => rfl
    | some y =>
      obtain ⟨p1, p2⟩ := hp y rfl
      have := p2 x (by simp)
      simp only [rcmp_lex p1 hx.1]
      simpa using this
theorem zok_sound {z : List GE} (h : ZOk z) (hf : FairZ z) : zsound z = true := zsound0_of h hf fun _ h => by cases h
theorem zsound_badE {z : List GE} (h : zsound z = true) : ∀ x ∈ z, badE x = false := fun x hx => by
  obtain ⟨_, h2, h3⟩ := (zsound_parts h).1 x hx
  unfold badE
  rw [h2, h3]; rfl
theorem add_badE {a b : List GE} (ha : zsound a = true) (hb : zsound b = true) : (a ++ b).any badE = false := by
  rw [List.any_eq_false]
  intro x hx
  rcases List.mem_append.1 hx with hx | hx
  · rw [zsound_badE ha x hx]; simp
  · rw [zsound_badE hb x hx]; simp
/-- What Add answers. -/
def AddPost (a b : List GE) (w : World) (e : Ending) (w' : World) : Prop := Below w.heap.size w w' ∧
  if zsound a = false ∨ zsound b = false then e = .returned (.tuple #[.slice none 0 0, .int .i64 1])
  else if overL (a ++ b) = true then e = .returned (.tuple #[.slice none 0 0, .int .i64 11])
  else ∃ v z, e = .returned (.tuple #[v, .int .i64 0]) ∧ Made (a ++ b) z ∧ RdZ2 w' w.heap.size v z ∧ z.length ≤ a.length + b.length
theorem AddPost.bad {a b : List GE} {w w' : World} (hB : Below w.heap.size w w') (h : zsound a = false ∨ zsound b = false) : AddPost a b w (.returned (.tuple #[.slice none 0 0, .int .i64 1])) w' := ⟨hB, by rw [if_pos h]⟩
theorem AddPost.of {a b : List GE} {w w4 w5 : World} {e : Ending} (hB4 : Below w.heap.size w w4) (hs : zsound a = true) (hs2 : zsound b = true) (h : MakePost (a ++ b) w4 e w5) : AddPost a b w e w5 := by
  obtain ⟨hB5, hp⟩ := h
  refine ⟨hB4.trans (hB5.mono hB4.size), ?_⟩
  rw [if_neg (by rw [hs, hs2]; simp)]
  rw [if_neg (by rw [add_badE hs hs2]; simp)] at hp
  split at hp
  · next ho => rw [if_pos ho]; exact hp
  · next ho =>
    rw [if_neg ho]
    obtain ⟨v, z, h1, h2, h3, h4⟩ := hp
    exact ⟨v, z, h1, h2, h3.low hB4.size, by rw [List.length_append] at h4; exact h4⟩
theorem MakePost.shape {l : List GE} {w w' : World} {e : Ending} (h : MakePost l w e w') : ∃ (A : Option Addr) (n c : Nat) (k : Int), e = .returned (.tuple #[.slice A n c, .int .i64 k]) := by
  obtain ⟨_, h⟩ := h
  split at h
  · exact ⟨_, _, _, _, h⟩
  · split at h
    · exact ⟨_, _, _, _, h⟩
    · obtain ⟨v, z, h, _, hr, _⟩ := h
      obtain ⟨A, c, rfl, _⟩ := hr.shape
      exact ⟨_, _, _, _, h⟩
end Go.Proofs.YtmpndmjfdijamaaGreatDoor
