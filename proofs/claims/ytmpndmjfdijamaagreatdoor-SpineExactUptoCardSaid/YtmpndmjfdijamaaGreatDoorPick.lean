/- The walk of row.Pick. -/
import Derived.Test.YtmpndmjfdijamaaGreatDoorSl
set_option linter.unusedVariables false
set_option linter.unusedSimpArgs false
namespace Go.Proofs.YtmpndmjfdijamaaGreatDoor
open Go.RowKit Go.Sort
def pickL (r : List GV) : List Int → Option (List GV)
  | [] => some []
  | i :: cs => if i < 0 then none else match r[i.toNat]? with
    | none => none
    | some x => (pickL r cs).map (x :: ·)
/-- row.Pick -/
def pick (r : List GV) (cols : List Int) : Option (List GV) := if rsound r = true ∧ cols.length ≤ 1024 then pickL r cols else none
theorem pickL_step (r : List GV) (cols : List Int) (k : Nat) (i : Int) (x : GV) (hi : cols[k]? = some i) (h0 : 0 ≤ i) (hx : r[i.toNat]? = some x) (xs : List GV) :
    (pickL r (cols.drop k)).map (xs ++ ·) = (pickL r (cols.drop (k + 1))).map ((xs ++ [x]) ++ ·) := by
  obtain ⟨h1, rfl⟩ := List.getElem?_eq_some_iff.1 hi
  rw [List.drop_eq_getElem_cons h1, pickL, if_neg (by omega), hx]
  cases pickL r (cols.drop (k + 1)) <;> simp
theorem pickL_stop (r : List GV) (cols : List Int) (k : Nat) (i : Int) (hi : cols[k]? = some i) (h : i < 0 ∨ (r.length : Int) ≤ i) : pickL r (cols.drop k) = none := by
  obtain ⟨h1, rfl⟩ := List.getElem?_eq_some_iff.1 hi
  rw [List.drop_eq_getElem_cons h1, pickL]
  by_cases h0 : cols[k] < 0
  · rw [if_pos h0]
  · rw [if_neg h0, List.getElem?_eq_none (by omega)]
theorem pick_bad (v u : Value) (r : List GV) (cols : List Int) (w : World) (hr : RdV w AnyB v r) (hc : RdI w AnyB u cols) (h : ¬ (rsound r = true ∧ cols.length ≤ 1024)) :
    Calls Tryz.prog 57 #[v, u] w fun e w' => e = .returned (.tuple #[.slice none 0 0, .int .i64 1]) ∧ Below w.heap.size w w' := by
  have h1 := rSound_any v r w hr
  obtain ⟨A, c, rfl, _⟩ := hr.shape
  obtain ⟨B, d, rfl, _⟩ := hc.shape
  clear hr hc
  cases hs : rsound r
  · rw [hs] at h1
    clear h hs
    go_enter Tryz.func57, Tryz.ntmps57
    go_wp2_with (go_at_call 41; refine h1.mono ?_; rintro e w1 ⟨rfl, hE⟩)
    go_ret2
    exact ⟨rfl, hE.below⟩
  · have hz : 1024 < (cols.length : Int) := by
      have : ¬ cols.length ≤ 1024 := fun h2 => h ⟨hs, h2⟩
      omega
    rw [hs] at h1
    clear h hs
    go_enter Tryz.func57, Tryz.ntmps57
    go_wp2_with (go_at_call 41; refine h1.mono ?_; rintro e w1 ⟨rfl, hE⟩)
    go_ret2
    exact ⟨rfl, hE.below⟩
/-- What row.Pick answers. -/
def PickPost (w : World) (p : Option (List GV)) (e : Ending) (w' : World) : Prop :=
  Below w.heap.size w w' ∧ match p with
  | none => e = .returned (.tuple #[.slice none 0 0, .int .i64 1])
  | some xs => ∃ u, e = .returned (.tuple #[u, .int .i64 0]) ∧ RdV w' (Fresh w.heap.size [55]) u xs
set_option maxHeartbeats 2000000 in
theorem pick_good (v u : Value) (r : List GV) (cols : List Int) (w : World) (hr : RdV w AnyB v r) (hc : RdI w AnyB u cols) (h : rsound r = true) (h2 : cols.length ≤ 1024) :
    Calls Tryz.prog 57 #[v, u] w (PickPost w (pickL r cols)) := by
  have h1 := rSound_any v r w hr
  rw [h] at h1
  obtain ⟨A, c, rfl, _⟩ := hr.shape
  obtain ⟨B, d, rfl, _⟩ := hc.shape
  have hrl := hr.len
  have hz : ¬ 1024 < (cols.length : Int) := by omega
  have HR := As.mk hr
  have HC := As.mk hc
  clear hr hc h
  go_enter Tryz.func57, Tryz.ntmps57
  go_wp2_with fail
  refine h1.mono ?_
  rintro e w1 ⟨rfl, hE⟩
  have HB1 := As.mk hE.below
  clear hE h1
  go_wp2
  go_loopg [6, 8, 19] cols.length (fun g s6 _ s19 wr => ∃ (k : Nat) (xs : List GV), k ≤ cols.length ∧ cols.length - k ≤ g ∧ s19 = .int .i64 k ∧ xs.length = k ∧ As (OwnL 4 EV 55 wr w.heap.size s6 xs) ∧ As (Below w.heap.size w wr) ∧ As ((pickL r (cols.drop k)).map (xs ++ ·) = pickL r cols))
  case atStart => exact ⟨0, [], Nat.zero_le _, by omega, rfl, rfl, ⟨OwnL.nil _ _ _ _ _⟩, HB1, ⟨by simp⟩⟩
  case round =>
    obtain ⟨k, xs, hk, hg, rfl, hxs, HO, HB, HA⟩ := hrel
    have HXS := As.mk hxs
    clear hxs
    by_cases hlt : k < cols.length
    · have hltz : (k : Int) < (cols.length : Int) := by omega
      obtain ⟨i, hi⟩ : ∃ i, cols[k]? = some i := ⟨_, List.getElem?_eq_getElem hlt⟩
      obtain ⟨b, o, c', hv, hb, hiw, c0⟩ := RdI.val HC.out hi
      injection hv with hA _ hcc
      subst hA
      replace c0 := (HB.out.cell (World.block_lt_of_cell? w _ c0)).trans c0
      have HI := As.mk hi
      obtain ⟨hi1, hi2⟩ := hiw
      clear hi hcc
      by_cases hneg : i < 0
      · go_wp2
        go_ret2
        refine ⟨HB.out, ?_⟩
        rw [← HA.out, pickL_stop r cols k i HI.out (.inl hneg)]
        rfl
      · have hnegb : decide (i < 0) = false := by simpa using hneg
        by_cases hbig : (r.length : Int) ≤ i
        · go_wp2
          go_ret2
          refine ⟨HB.out, ?_⟩
          rw [← HA.out, pickL_stop r cols k i HI.out (.inr hbig)]
          rfl
        · have hbigb : decide ((r.length : Int) ≤ i) = false := by simpa using hbig
          obtain ⟨x, hx⟩ : ∃ x, r[i.toNat]? = some x := ⟨_, List.getElem?_eq_getElem (by omega)⟩
          obtain ⟨b2, o2, c2', hv2, hb2, hok2, d0, d1, d2, d3⟩ := RdV.val HR.out hx
          injection hv2 with hA2 _ hcc2
          subst hA2
          replace d0 := (HB.out.cell (World.block_lt_of_cell? w _ d0)).trans d0
          replace d1 := (HB.out.cell (World.block_lt_of_cell? w _ d1)).trans d1
          replace d2 := (HB.out.cell (World.block_lt_of_cell? w _ d2)).trans d2
          replace d3 := (HB.out.cell (World.block_lt_of_cell? w _ d3)).trans d3
          have HX := As.mk (pickL_step r cols k i x HI.out (by omega) hx xs)
          have HK := As.mk hok2
          have HXL : As (xs.length < 4294967296) := ⟨by rw [HXS.out]; omega⟩
          have hi0 : 0 ≤ i := by omega
          have hi3 : i < (r.length : Int) := by omega
          clear hx hcc2 hok2
          go_wp2_with (at_builtin; go_loud (refine OwnL.append w.heap.size rfl (.tmp 31) (.tmp 36) 25 55 _ 4 40 rfl Tryz.underlying25 info_val rfl (by decide) (by decide) _ xs x x.cells rfl rfl (E := EV) ⟨rfl, HK.out⟩ rfl (GV.cells_one x) HO.out HB.out HB.out.size HXL.out rfl ?_); intro v1 w2 hown hb' hg' hat)
          have HO2 := As.mk hown
          have HB2 := As.mk hb'
          clear hown hb' hg' hat
          go_wp2
          go_roundg (cols.length - (k + 1))
          case measure => omega
          case rel => exact ⟨k + 1, xs ++ [x], by omega, by omega, by go_num, by rw [List.length_append, HXS.out]; rfl, HO2, HB2, ⟨by rw [← HA.out, HX.out]⟩⟩
    · have hltz : ¬ (k : Int) < (cols.length : Int) := by omega
      go_wp2
      go_ret2
      refine ⟨HB.out, ?_⟩
      rw [← HA.out, List.drop_eq_nil_of_le (by omega)]
      exact ⟨_, rfl, OwnL.rd (by simpa using HO.out) (fun k hk => ⟨hk, by simp⟩)⟩
theorem pick_any (v u : Value) (r : List GV) (cols : List Int) (w : World) (hr : RdV w AnyB v r) (hc : RdI w AnyB u cols) :
    Calls Tryz.prog 57 #[v, u] w (PickPost w (pick r cols)) := by
  unfold pick
  by_cases h : rsound r = true ∧ cols.length ≤ 1024
  · rw [if_pos h]
    exact pick_good v u r cols w hr hc h.1 h.2
  · rw [if_neg h]
    exact (pick_bad v u r cols w hr hc h).mono fun _ _ ⟨he, hb⟩ => ⟨hb, he⟩
end Go.Proofs.YtmpndmjfdijamaaGreatDoor
