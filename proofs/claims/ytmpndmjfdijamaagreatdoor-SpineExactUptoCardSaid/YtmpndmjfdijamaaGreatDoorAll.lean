/- The walk of a spine's All. -/
import Derived.Test.YtmpndmjfdijamaaGreatDoorEntries
set_option linter.unusedVariables false
set_option linter.unusedSimpArgs false
namespace Go.Proofs.YtmpndmjfdijamaaGreatDoor
open Go.RowKit Go.Sort
/-- All batches as one. -/
def allL (bs : List (List GI)) : List GI := bs.foldl mergeL []
theorem allL_step (bs : List (List GI)) (j : Nat) (z : List GI) (hz : bs[j]? = some z) : allL (bs.take (j + 1)) = mergeL (allL (bs.take j)) z := by
  unfold allL
  rw [List.take_add_one, hz, Option.toList_some, List.foldl_append]
  rfl
theorem allL_len (bs : List (List GI)) : (allL bs).length ≤ heldL bs := by
  have key : ∀ (bs : List (List GI)) (a : List GI), (bs.foldl mergeL a).length ≤ a.length + heldL bs := by
    intro bs
    induction bs with
    | nil => intro a; simp [heldL]
    | cons z bs ih =>
      intro a
      have h1 := ih (mergeL a z)
      have h2 := mergeL_length a z
      simp only [List.foldl_cons, heldL]
      omega
  have := key bs []
  simpa [allL] using this
theorem mergeL_row {P : List GV → Prop} (x y : List GI) (hx : ∀ u ∈ x, P u.row) (hy : ∀ u ∈ y, P u.row) : ∀ u ∈ mergeL x y, P u.row := by
  fun_induction mergeL x y with
  | case1 ys => exact hy
  | case2 xs h => exact hx
  | case3 x xs y ys h ih => intro u hu; rcases List.mem_cons.1 hu with rfl | hu
                            · exact hx _ (by simp)
                            · exact ih (fun v hv => hx v (by simp [hv])) hy u hu
  | case4 x xs y ys h h' ih => intro u hu; rcases List.mem_cons.1 hu with rfl | hu
                               · exact hy _ (by simp)
                               · exact ih hx (fun v hv => hy v (by simp [hv])) u hu
  | case5 x xs y ys h h' h2 ih => intro u hu; rcases List.mem_cons.1 hu with rfl | hu
                                  · exact hx x (by simp)
                                  · exact ih (fun v hv => hx v (by simp [hv])) (fun v hv => hy v (by simp [hv])) u hu
  | case6 x xs y ys h h' h2 ih => exact ih (fun v hv => hx v (by simp [hv])) (fun v hv => hy v (by simp [hv]))
theorem allL_row {P : List GV → Prop} (bs : List (List GI)) (h : ∀ z ∈ bs, ∀ u ∈ z, P u.row) : ∀ u ∈ allL bs, P u.row := by
  have key : ∀ (bs : List (List GI)) (a : List GI), (∀ u ∈ a, P u.row) → (∀ z ∈ bs, ∀ u ∈ z, P u.row) → ∀ u ∈ bs.foldl mergeL a, P u.row := by
    intro bs
    induction bs with
    | nil => intro a ha _; exact ha
    | cons z bs ih => intro a ha hb; exact ih _ (mergeL_row a z ha (hb z (by simp))) fun z' hz' => hb z' (by simp [hz'])
  exact key bs [] (by simp) h
/-- What All and Get answer: these items' entries, in the order of rows. -/
def ZPost (w : World) (z : List GI) (e : Ending) (w' : World) : Prop := ∃ v', e = .returned v' ∧ Below w.heap.size w w' ∧
  ∃ xs, xs.Perm (z.map GI.ent) ∧ (xs.Pairwise fun x y => ¬ rlex y.row x.row < 0) ∧ RdZ2 w' w.heap.size v' xs
theorem all_nil (w : World) : Calls Tryz.prog 21 #[.pointer none] w fun r w' => r = .returned (.slice none 0 0) ∧ w = w' := by
  go_enter Tryz.func21, Tryz.ntmps21
  go_wp2
  go_ret
  exact ⟨rfl, rfl⟩
theorem all_any (base b : Nat) (S : GS) (w : World) (h : SpAt base b w S) (hH : heldL S.bs ≤ 4294967296) (hs : ∀ z ∈ S.bs, ∀ u ∈ z, rsound u.row = true) :
    Calls Tryz.prog 21 #[.pointer (some ⟨b, 0, none⟩)] w (ZPost w (allL S.bs)) := by
  obtain ⟨u, bv, hb, _, hbs⟩ := h.bat
  obtain ⟨A, c, rfl, hc⟩ := hbs.shape
  have hl := hbs.len
  obtain ⟨_, c1, _⟩ := spine_cells hb
  have HB := As.mk hbs
  have HS := As.mk (allL_row (P := fun r => rsound r = true) S.bs hs)
  obtain ⟨_, bs, _⟩ := S
  unfold ZPost
  simp only at *
  clear h hb hbs hs
  go_enter Tryz.func21, Tryz.ntmps21
  go_wp2_with fail
  go_loopg [3, 13] bs.length (fun g s3 s13 wr => ∃ (j : Nat), j ≤ bs.length ∧ bs.length - j ≤ g ∧ s13 = .int .i64 j ∧ As (RdT wr AnyB s3 (allL (bs.take j))) ∧ As (Below w.heap.size w wr))
  case atStart => exact ⟨0, by omega, by omega, by go_num, ⟨RdL.nil _ _ _ _⟩, ⟨Below.refl _ _⟩⟩
  case round =>
    obtain ⟨j, hj, hg, rfl, HR, HW⟩ := hrel
    by_cases hlt : j < bs.length
    · have hltz : (j : Int) < (bs.length : Int) := by omega
      obtain ⟨z, hz⟩ : ∃ z, bs[j]? = some z := ⟨_, List.getElem?_eq_getElem hlt⟩
      obtain ⟨b0, o, c', hv, hb0, cs, _, ⟨vz, rfl, hvz⟩, _, hcc⟩ := HB.out.at hz
      have e0 := (HW.out.cell (World.block_lt_of_cell? w _ (hcc 0 vz rfl))).trans (hcc 0 vz rfl)
      simp only [Nat.mul_one, Nat.add_zero] at e0
      injection hv with hA _ hccc
      subst hA
      have hvz2 := hvz.ext HW.out
      obtain ⟨Az, cz, rfl, _⟩ := hvz.shape
      obtain ⟨h1, h2⟩ := heldL_split bs j z hz
      have h3 := allL_len (bs.take j)
      have HM := As.mk (merged_any u3 _ _ z AnyB wr HR.out hvz2 (by omega))
      have HST := As.mk (allL_step bs j z hz)
      clear hvz hvz2 hz hcc hccc h1 h2 h3
      go_wp2_with (go_at_call 48; refine HM.out.mono ?_; rintro e w2 ⟨v2, rfl, hown, hB⟩; have HR2 := As.mk (hown.rd (ok := AnyB) fun _ _ => trivial); have HB2 := As.mk (HW.out.trans (hB.mono HW.out.size)); clear hown hB)
      go_roundg (bs.length - (j + 1))
      case measure => omega
      case rel => exact ⟨j + 1, by omega, by omega, by go_num, ⟨by rw [HST.out]; exact HR2.out⟩, HB2⟩
    · have hltz : ¬ (j : Int) < (bs.length : Int) := by omega
      obtain rfl : j = bs.length := by omega
      rw [List.take_length] at HR
      have HE := As.mk (entries_any u3 _ wr HR.out HS.out)
      go_wp2_with (go_at_call 49; refine HE.out.mono ?_; rintro e w2 ⟨v2, rfl, hB, xs, h1, h2, h3⟩; have HF := As.mk (And.intro hB (And.intro h1 (And.intro h2 h3))); clear hB h1 h2 h3)
      go_ret
      obtain ⟨hB, h1, h2, h3⟩ := HF.out
      exact ⟨_, rfl, HW.out.trans (hB.mono HW.out.size), xs, h1, h2, h3.low HW.out.size⟩
end Go.Proofs.YtmpndmjfdijamaaGreatDoor
