/- The walk of row.Pick. Items: how they lie in memory; the walks of cmp.Or and spine.compare. The walks of slices.BinarySearchFunc over items, by an item and by a key. The order of byte strings and of items: plain laws. Cuts of slices that are read: xs[i:], xs[:j], xs[i:j]. The walk of spine.merged: two batches as one. -/
import Derived.Test.YtflckpfpgpfjlaaGreatDoorMBase
import Derived.Deep.RegionLaw
set_option linter.unusedVariables false
set_option linter.unusedSimpArgs false
section
namespace Go.Proofs.YtflckpfpgpfjlaaGreatDoor
open Go.RowKit Go.Sort
def pickL (r : List GV) : List Int → Option (List GV)
  | [] => some []
  | i :: cs => if i < 0 then none else match r[i.toNat]? with
    | none => none
    | some x => (pickL r cs).map (x :: ·)
/-- row.Pick -/
def pick (r : List GV) (cols : List Int) : Option (List GV) := if rsound r = true ∧ cols.length ≤ 1024 then pickL r cols else none
theorem pickL_step (r : List GV) (cols : List Int) (k : Nat) (i : Int) (x : GV) (hi : cols[k]? = some i) (h0 : 0 ≤ i) (hx : r[i.toNat]? = some x) (xs : List GV) :
    (pickL r (cols.drop k)).map (xs ++ ·) = (pickL r (cols.drop (k + 1))).map ((xs ++ [x]) ++ ·) := by
  obtain ⟨h1, rfl⟩ := List.getElem?_eq_some_iff.1 hi
  rw [List.drop_eq_getElem_cons h1, pickL, if_neg (by omega), hx]
  cases pickL r (cols.drop (k + 1)) <;> simp
theorem pickL_stop (r : List GV) (cols : List Int) (k : Nat) (i : Int) (hi : cols[k]? = some i) (h : i < 0 ∨ (r.length : Int) ≤ i) : pickL r (cols.drop k) = none := by
  obtain ⟨h1, rfl⟩ := List.getElem?_eq_some_iff.1 hi
  rw [List.drop_eq_getElem_cons h1, pickL]
  by_cases h0 : cols[k] < 0
  · rw [if_pos h0]
  · rw [if_neg h0, List.getElem?_eq_none (by omega)]
theorem pick_bad (v u : Value) (r : List GV) (cols : List Int) (w : World) (hr : RdV w AnyB v r) (hc : RdI w AnyB u cols) (h : ¬ (rsound r = true ∧ cols.length ≤ 1024)) :
    Calls Tryz.prog 66 #[v, u] w fun e w' => e = .returned (.tuple #[.slice none 0 0, .int .i64 1]) ∧ Below w.heap.size w w' := by
  have h1 := rSound_any v r w hr
  obtain ⟨A, c, rfl, _⟩ := hr.shape
  obtain ⟨B, d, rfl, _⟩ := hc.shape
  clear hr hc
  cases hs : rsound r
  · rw [hs] at h1
    clear h hs
    go_enter Tryz.func66, Tryz.ntmps66
    go_wp2_with (go_at_call 54; refine h1.mono ?_; rintro e w1 ⟨rfl, hE⟩)
    go_ret2
    exact ⟨rfl, hE.below⟩
  · have hz : 1024 < (cols.length : Int) := by
      have : ¬ cols.length ≤ 1024 := fun h2 => h ⟨hs, h2⟩
      omega
    rw [hs] at h1
    clear h hs
    go_enter Tryz.func66, Tryz.ntmps66
    go_wp2_with (go_at_call 54; refine h1.mono ?_; rintro e w1 ⟨rfl, hE⟩)
    go_ret2
    exact ⟨rfl, hE.below⟩
/-- What row.Pick answers. -/
def PickPost (w : World) (p : Option (List GV)) (e : Ending) (w' : World) : Prop :=
  Below w.heap.size w w' ∧ match p with
  | none => e = .returned (.tuple #[.slice none 0 0, .int .i64 1])
  | some xs => ∃ u, e = .returned (.tuple #[u, .int .i64 0]) ∧ RdV w' (Fresh w.heap.size [96]) u xs
set_option maxHeartbeats 2000000 in
theorem pick_good (v u : Value) (r : List GV) (cols : List Int) (w : World) (hr : RdV w AnyB v r) (hc : RdI w AnyB u cols) (h : rsound r = true) (h2 : cols.length ≤ 1024) :
    Calls Tryz.prog 66 #[v, u] w (PickPost w (pickL r cols)) := by
  have h1 := rSound_any v r w hr
  rw [h] at h1
  obtain ⟨A, c, rfl, _⟩ := hr.shape
  obtain ⟨B, d, rfl, _⟩ := hc.shape
  have hrl := hr.len
  have hz : ¬ 1024 < (cols.length : Int) := by omega
  have HR := As.mk hr
  have HC := As.mk hc
  clear hr hc h
  go_enter Tryz.func66, Tryz.ntmps66
  go_wp2_with fail
  refine h1.mono ?_
  rintro e w1 ⟨rfl, hE⟩
  have HB1 := As.mk hE.below
  clear hE h1
  go_wp2
  go_loopg [6, 8, 19] cols.length (fun g s6 _ s19 wr => ∃ (k : Nat) (xs : List GV), k ≤ cols.length ∧ cols.length - k ≤ g ∧ s19 = .int .i64 k ∧ xs.length = k ∧ As (OwnL 4 EV 96 wr w.heap.size s6 xs) ∧ As (Below w.heap.size w wr) ∧ As ((pickL r (cols.drop k)).map (xs ++ ·) = pickL r cols))
  case atStart => exact ⟨0, [], Nat.zero_le _, by omega, rfl, rfl, ⟨OwnL.nil _ _ _ _ _⟩, HB1, ⟨by simp⟩⟩
  case round =>
    obtain ⟨k, xs, hk, hg, rfl, hxs, HO, HB, HA⟩ := hrel
    have HXS := As.mk hxs
    clear hxs
    by_cases hlt : k < cols.length
    · have hltz : (k : Int) < (cols.length : Int) := by omega
      obtain ⟨i, hi⟩ : ∃ i, cols[k]? = some i := ⟨_, List.getElem?_eq_getElem hlt⟩
      obtain ⟨b, o, c', hv, hb, hiw, c0⟩ := RdI.val HC.out hi
      injection hv with hA _ hcc
      subst hA
      replace c0 := (HB.out.cell (World.block_lt_of_cell? w _ c0)).trans c0
      have HI := As.mk hi
      obtain ⟨hi1, hi2⟩ := hiw
      clear hi hcc
      by_cases hneg : i < 0
      · go_wp2
        go_ret2
        refine ⟨HB.out, ?_⟩
        rw [← HA.out, pickL_stop r cols k i HI.out (.inl hneg)]
        rfl
      · have hnegb : decide (i < 0) = false := by simpa using hneg
        by_cases hbig : (r.length : Int) ≤ i
        · go_wp2
          go_ret2
          refine ⟨HB.out, ?_⟩
          rw [← HA.out, pickL_stop r cols k i HI.out (.inr hbig)]
          rfl
        · have hbigb : decide ((r.length : Int) ≤ i) = false := by simpa using hbig
          obtain ⟨x, hx⟩ : ∃ x, r[i.toNat]? = some x := ⟨_, List.getElem?_eq_getElem (by omega)⟩
          obtain ⟨b2, o2, c2', hv2, hb2, hok2, d0, d1, d2, d3⟩ := RdV.val HR.out hx
          injection hv2 with hA2 _ hcc2
          subst hA2
          replace d0 := (HB.out.cell (World.block_lt_of_cell? w _ d0)).trans d0
          replace d1 := (HB.out.cell (World.block_lt_of_cell? w _ d1)).trans d1
          replace d2 := (HB.out.cell (World.block_lt_of_cell? w _ d2)).trans d2
          replace d3 := (HB.out.cell (World.block_lt_of_cell? w _ d3)).trans d3
          have HX := As.mk (pickL_step r cols k i x HI.out (by omega) hx xs)
          have HK := As.mk hok2
          have HXL : As (xs.length < 4294967296) := ⟨by rw [HXS.out]; omega⟩
          have hi0 : 0 ≤ i := by omega
          have hi3 : i < (r.length : Int) := by omega
          clear hx hcc2 hok2
          go_wp2_with (at_builtin; go_loud (refine OwnL.append w.heap.size rfl (.tmp 31) (.tmp 36) 64 96 _ 4 40 rfl Tryz.underlying64 info_val rfl (by decide) (by decide) _ xs x x.cells rfl rfl (E := EV) ⟨rfl, HK.out⟩ rfl (GV.cells_one x) HO.out HB.out HB.out.size HXL.out rfl ?_); intro v1 w2 hown hb' hg' hat)
          have HO2 := As.mk hown
          have HB2 := As.mk hb'
          clear hown hb' hg' hat
          go_wp2
          go_roundg (cols.length - (k + 1))
          case measure => omega
          case rel => exact ⟨k + 1, xs ++ [x], by omega, by omega, by go_num, by rw [List.length_append, HXS.out]; rfl, HO2, HB2, ⟨by rw [← HA.out, HX.out]⟩⟩
    · have hltz : ¬ (k : Int) < (cols.length : Int) := by omega
      go_wp2
      go_ret2
      refine ⟨HB.out, ?_⟩
      rw [← HA.out, List.drop_eq_nil_of_le (by omega)]
      exact ⟨_, rfl, OwnL.rd (by simpa using HO.out) (fun k hk => ⟨hk, by simp⟩)⟩
theorem pick_any (v u : Value) (r : List GV) (cols : List Int) (w : World) (hr : RdV w AnyB v r) (hc : RdI w AnyB u cols) :
    Calls Tryz.prog 66 #[v, u] w (PickPost w (pick r cols)) := by
  unfold pick
  by_cases h : rsound r = true ∧ cols.length ≤ 1024
  · rw [if_pos h]
    exact pick_good v u r cols w hr hc h.1 h.2
  · rw [if_neg h]
    exact (pick_bad v u r cols w hr hc h).mono fun _ _ ⟨he, hb⟩ => ⟨hb, he⟩
end Go.Proofs.YtflckpfpgpfjlaaGreatDoor
end
section
namespace Go.Proofs.YtflckpfpgpfjlaaGreatDoor
open Go.RowKit Go.Sort
/-- spine.item -/
structure GI where
  key : ByteArray
  enc : ByteArray
  row : List GV
  size : Int
/-- An item's cells. -/
def EIt (w : World) (ok : Blk) (x : GI) (cs : List Value) : Prop := ∃ v, cs = [.string x.key, .string x.enc, v, .int .i64 x.size] ∧ i64 x.size ∧ x.key.size ≤ 9223372036854775807 ∧ x.enc.size ≤ 9223372036854775807 ∧ RdV w ok v x.row
/-- A batch. -/
abbrev RdT (w : World) (ok : Blk) (v : Value) (z : List GI) : Prop := RdL 4 (EIt w ok) w ok v z
theorem EIt.mv {w w' : World} {ok ok' : Blk} {x : GI} {cs : List Value} (h : EIt w ok x cs) (hs : Stays w w' ok ok') : EIt w' ok' x cs :=
  let ⟨v, hc, hi, hk, he, hr⟩ := h; ⟨v, hc, hi, hk, he, hr.mv hs⟩
theorem RdT.mv {w w' : World} {ok ok' : Blk} {v : Value} {z : List GI} (h : RdT w ok v z) (hs : Stays w w' ok ok') : RdT w' ok' v z :=
  RdL.move h (fun _ _ e => e.mv hs) hs
theorem RdT.ext {w w' : World} {ok : Blk} {v : Value} {z : List GI} (h : RdT w ok v z) (hb : Below w.heap.size w w') : RdT w' ok v z := h.mv (Stays.below hb ok)
theorem RdT.itm {w : World} {ok : Blk} {v : Value} {z : List GI} (h : RdT w ok v z) {j : Nat} {x : GI} (hj : z[j]? = some x) : ∃ b o c A d, v = .slice (some ⟨b, o, none⟩) z.length c ∧ b < w.heap.size ∧ i64 x.size ∧
    RdV w ok (.slice A x.row.length d) x.row ∧ EIt w ok x [.string x.key, .string x.enc, .slice A x.row.length d, .int .i64 x.size] ∧ w.cell? ⟨b, o + j * 4, none⟩ = some (.string x.key) ∧ w.cell? ⟨b, o + j * 4 + 1, none⟩ = some (.string x.enc) ∧ w.cell? ⟨b, o + j * 4 + 2, none⟩ = some (.slice A x.row.length d) ∧ w.cell? ⟨b, o + j * 4 + 3, none⟩ = some (.int .i64 x.size) := by
  obtain ⟨b, o, c, hv, hb, cs, _, ⟨u, rfl, hx, hk, he, hr⟩, _, hc⟩ := h.at hj
  obtain ⟨A, d, rfl, _⟩ := hr.shape
  exact ⟨b, o, c, A, d, hv, hb, hx, hr, ⟨_, rfl, hx, hk, he, hr⟩, hc 0 _ rfl, hc 1 _ rfl, hc 2 _ rfl, hc 3 _ rfl⟩
theorem info_item : (Tryz.prog.info? 122).map (fun i => (i.zero, i.size, i.bytes)) = some (some (.agg #[.string ⟨#[]⟩, .string ⟨#[]⟩, .slice none 0 0, .int .i64 0]), 4, 64) := by kernel_rfl
/-- What lies below lies ahead of what does not. -/
def Mono0 (f : GI → Int) (z : List GI) : Prop := ∀ (a b : Nat) (x y : GI), a ≤ b → z[a]? = some x → z[b]? = some y → f y < 0 → f x < 0
/-- cmp.Or -/
def orv (a b : Int) : Int := if a ≠ 0 then a else b
/-- spine.compare, of key and enc. -/
def kcmp (k e k' e' : ByteArray) : Int := orv (scmp k k') (scmp e e')
def GI.cmp (x y : GI) : Int := kcmp x.key x.enc y.key y.enc
theorem orInt_any (a b : Int) (k : Nat) (w : World) (h0 : w.cell? ⟨k, 0, none⟩ = some (.int .i64 a)) (h1 : w.cell? ⟨k, 1, none⟩ = some (.int .i64 b)) : Calls Tryz.prog 135 #[.slice (some ⟨k, 0, none⟩) 2 2] w fun e w' => e = .returned (.int .i64 (orv a b)) ∧ w = w' := by
  go_enter Tryz.func135, Tryz.ntmps135
  go_wp2
  go_loopg [5, 8] 2 (fun g _ s8 wr => ∃ k : Nat, k ≤ 2 ∧ 2 - k ≤ g ∧ s8 = .int .i64 k ∧ wr = w ∧ As (0 < k → a = 0) ∧ As (1 < k → b = 0))
  case atStart => exact ⟨0, by omega, by omega, rfl, rfl, ⟨fun h => absurd h (by omega)⟩, ⟨fun h => absurd h (by omega)⟩⟩
  case round =>
    obtain ⟨k, hk, hg, rfl, rfl, HA, HB⟩ := hrel
    have hk3 : k = 0 ∨ k = 1 ∨ k = 2 := by omega
    rcases hk3 with rfl | rfl | rfl
    · by_cases ha : a = 0
      · have hab : (a != 0) = false := by simpa using ha
        have HA2 := As.mk ha
        clear ha
        go_wp2
        go_roundg 1
        case measure => omega
        case rel => exact ⟨1, by omega, by omega, by first | trivial | go_num, by first | trivial | rfl, ⟨fun _ => HA2.out⟩, ⟨fun h => absurd h (by omega)⟩⟩
      · have hab : (a != 0) = true := by simpa using ha
        go_wp2
        go_ret
        exact ⟨ret_int (by simp [orv, ha]), rfl⟩
    · have HA2 := As.mk (HA.out (by omega))
      by_cases hb : b = 0
      · have hbb : (b != 0) = false := by simpa using hb
        have HB2 := As.mk hb
        clear hb
        go_wp2
        go_roundg 0
        case measure => omega
        case rel => exact ⟨2, by omega, by omega, by first | trivial | go_num, by first | trivial | rfl, ⟨fun _ => HA2.out⟩, ⟨fun _ => HB2.out⟩⟩
      · have hbb : (b != 0) = true := by simpa using hb
        go_wp2
        go_ret
        exact ⟨ret_int (by simp [orv, HA2.out]), rfl⟩
    · have ha : a = 0 := HA.out (by omega)
      have hb : b = 0 := HB.out (by omega)
      go_wp2
      go_ret
      exact ⟨ret_int (by simp [orv, ha, hb]), rfl⟩
set_option maxRecDepth 100000 in
theorem compare_any (A B : Option Addr) (n m c d : Nat) (k e k' e' : ByteArray) (s s' : Int) (w : World) :
    Calls Tryz.prog 79 #[.agg #[.string k, .string e, .slice A n c, .int .i64 s], .agg #[.string k', .string e', .slice B m d, .int .i64 s']] w fun r w' => r = .returned (.int .i64 (kcmp k e k' e')) ∧ Ext w w' := by
  have h1 := fun W => (strCompare_any k k' W).mono (fun _ _ ⟨he, hw⟩ => (⟨he, hw.symm⟩ : _ ∧ _ = W))
  have h2 := fun W => (strCompare_any e e' W).mono (fun _ _ ⟨he, hw⟩ => (⟨he, hw.symm⟩ : _ ∧ _ = W))
  go_enter Tryz.func79, Tryz.ntmps79
  go_wp2
  generalize hW1 : ((w.alloc (.cells #[.string k, .string e, .slice A n c, .int .i64 s] 122)).alloc (.cells #[.string k', .string e', .slice B m d, .int .i64 s'] 122)) = W1
  have c1 : W1.cell? ⟨w.heap.size, 0, none⟩ = some (.string k) := by rw [← hW1]; simp
  have c2 : W1.cell? ⟨w.heap.size, 1, none⟩ = some (.string e) := by rw [← hW1]; simp
  have c3 : W1.cell? ⟨w.heap.size + 1, 0, none⟩ = some (.string k') := by rw [← hW1]; simp
  have c4 : W1.cell? ⟨w.heap.size + 1, 1, none⟩ = some (.string e') := by rw [← hW1]; simp
  have hE : Ext w W1 := by rw [← hW1]; exact (by repeat (first | (with_reducible exact Ext.refl _) | (with_reducible assumption) | (with_reducible apply Ext.alloc) | (with_reducible apply Ext.drewN) | (with_reducible apply Ext.drew) | (with_reducible apply Ext.grow) | (with_reducible refine Ext.trans ?_ (by with_reducible assumption))))
  clear hW1
  refine wp_region_still_tail 10 (by kernel_rfl) (by kernel_rfl) ?_
  simp only [List.take_succ_cons, List.take_zero, List.drop_succ_cons, List.drop_zero]
  repeat still_step
  still_call (h1 _)
  repeat still_step
  still_call (h2 _)
  repeat still_step
  refine wpStill_nil ?_
  go_wp2_with fail
  refine (orInt_any (scmp k k') (scmp e e') _ _ (by simp) (by simp)).mono ?_
  rintro r w3 ⟨rfl, rfl⟩
  go_wp2_with fail
  go_ret
  exact ⟨rfl, (by repeat (first | (with_reducible exact Ext.refl _) | (with_reducible assumption) | (with_reducible apply Ext.alloc) | (with_reducible apply Ext.drewN) | (with_reducible apply Ext.drew) | (with_reducible apply Ext.grow) | (with_reducible refine Ext.trans ?_ (by with_reducible assumption))))⟩
end Go.Proofs.YtflckpfpgpfjlaaGreatDoor
end
section
namespace Go.Proofs.YtflckpfpgpfjlaaGreatDoor
open Go.RowKit Go.Sort
/-- What a search answers: i elements lie below, and whether the next one is met. -/
structure Found (f : GI → Int) (z : List GI) (i : Nat) (b : Bool) : Prop where
  le : i ≤ z.length
  below : ∀ (t : Nat) (x : GI), t < i → z[t]? = some x → f x < 0
  above : ∀ (t : Nat) (x : GI), i ≤ t → z[t]? = some x → 0 ≤ f x
  met : b = match z[i]? with
    | none => false
    | some x => decide (f x = 0)
def SearchPost (f : GI → Int) (z : List GI) (w : World) (e : Ending) (w' : World) : Prop := (∃ (i : Nat) (b : Bool), e = .returned (.tuple #[.int .i64 i, .bool b]) ∧ Found f z i b) ∧ Ext w w'
set_option maxHeartbeats 2000000 in
theorem bsItem_any (v : Value) (z : List GI) (A0 : Option Addr) (d0 n0 : Nat) (k e : ByteArray) (s : Int) (w : World) (hz : RdT w AnyB v z) (hm : Mono0 (fun x => kcmp x.key x.enc k e) z) :
    Calls Tryz.prog 118 #[v, .agg #[.string k, .string e, .slice A0 n0 d0, .int .i64 s], .func (.func 79) #[] #[]] w (SearchPost (fun x => kcmp x.key x.enc k e) z w) := by
  have mixed := mixed
  obtain ⟨A, c, rfl, hc⟩ := hz.shape
  have hl := hz.len
  have HR := As.mk hz
  have HM := As.mk hm
  clear hz hm
  have hE0 : Ext w (w.alloc (.cells #[.string k, .string e, .slice A0 n0 d0, .int .i64 s] 122)) := (by repeat (first | (with_reducible exact Ext.refl _) | (with_reducible assumption) | (with_reducible apply Ext.alloc) | (with_reducible apply Ext.drewN) | (with_reducible apply Ext.drew) | (with_reducible apply Ext.grow) | (with_reducible refine Ext.trans ?_ (by with_reducible assumption))))
  have b0 : (w.alloc (.cells #[.string k, .string e, .slice A0 n0 d0, .int .i64 s] 122)).cell? ⟨w.heap.size, 0, none⟩ = some (.string k) := by simp
  have b1 : (w.alloc (.cells #[.string k, .string e, .slice A0 n0 d0, .int .i64 s] 122)).cell? ⟨w.heap.size, 1, none⟩ = some (.string e) := by simp
  have b2 : (w.alloc (.cells #[.string k, .string e, .slice A0 n0 d0, .int .i64 s] 122)).cell? ⟨w.heap.size, 2, none⟩ = some (.slice A0 n0 d0) := by simp
  have b3 : (w.alloc (.cells #[.string k, .string e, .slice A0 n0 d0, .int .i64 s] 122)).cell? ⟨w.heap.size, 3, none⟩ = some (.int .i64 s) := by simp
  go_enter Tryz.func118, Tryz.ntmps118
  go_wp2
  generalize hW1 : w.alloc (.cells #[.string k, .string e, .slice A0 n0 d0, .int .i64 s] 122) = W1 at *
  clear hW1
  have HE0 := As.mk hE0
  have B0 := As.mk b0; have B1 := As.mk b1; have B2 := As.mk b2; have B3 := As.mk b3
  clear hE0 b0 b1 b2 b3
  go_loopg [9, 10, 11] z.length (fun g s9 s10 _ wr => ∃ lo hi : Nat, s9 = .int .i64 lo ∧ s10 = .int .i64 hi ∧ lo ≤ hi ∧ hi ≤ z.length ∧ hi - lo ≤ g ∧ As (Ext W1 wr) ∧
    As (∀ (t : Nat) (x : GI), t < lo → z[t]? = some x → kcmp x.key x.enc k e < 0) ∧ As (∀ (t : Nat) (x : GI), hi ≤ t → z[t]? = some x → 0 ≤ kcmp x.key x.enc k e))
  case atStart => exact ⟨0, z.length, rfl, rfl, Nat.zero_le _, Nat.le_refl _, by omega, ⟨Ext.refl _⟩, ⟨fun t x ht => absurd ht (Nat.not_lt_zero _)⟩, ⟨fun t x h1 h2 => absurd (List.getElem?_eq_some_iff.1 h2).1 (by omega)⟩⟩
  case round =>
    obtain ⟨lo, hi, rfl, rfl, hlh, hin, hg, HE, HL, HH⟩ := hrel
    have hE := HE.out
    have q0 : ∀ m os, (grow (wr.drewN m) os).cell? ⟨w.heap.size, 0, none⟩ = some (.string k) := fun m os => Ext.cell (Ext.grow hE m os) B0.out
    have q1 : ∀ m os, (grow (wr.drewN m) os).cell? ⟨w.heap.size, 1, none⟩ = some (.string e) := fun m os => Ext.cell (Ext.grow hE m os) B1.out
    have q2 : ∀ m os, (grow (wr.drewN m) os).cell? ⟨w.heap.size, 2, none⟩ = some (.slice A0 n0 d0) := fun m os => Ext.cell (Ext.grow hE m os) B2.out
    have q3 : ∀ m os, (grow (wr.drewN m) os).cell? ⟨w.heap.size, 3, none⟩ = some (.int .i64 s) := fun m os => Ext.cell (Ext.grow hE m os) B3.out
    by_cases hlt : lo < hi
    · have hltz : (lo : Int) < (hi : Int) := by omega
      obtain ⟨x, hx⟩ : ∃ x, z[(lo + hi) / 2]? = some x := ⟨_, List.getElem?_eq_getElem (by omega)⟩
      obtain ⟨b, o, c', A1, d1, hv, hb, _, _, _, c0, c1, c2, c3⟩ := RdT.itm HR.out hx
      injection hv with hA _ hcc
      subst hA
      have hE0 := HE0.out
      have p0 : ∀ m os, (grow (wr.drewN m) os).cell? ⟨b, o + (lo + hi) / 2 * 4, none⟩ = some (.string x.key) := fun m os => Ext.cell (Ext.grow (hE0.trans hE) m os) c0
      have p1 : ∀ m os, (grow (wr.drewN m) os).cell? ⟨b, o + (lo + hi) / 2 * 4 + 1, none⟩ = some (.string x.enc) := fun m os => Ext.cell (Ext.grow (hE0.trans hE) m os) c1
      have p2 : ∀ m os, (grow (wr.drewN m) os).cell? ⟨b, o + (lo + hi) / 2 * 4 + 2, none⟩ = some (.slice A1 x.row.length d1) := fun m os => Ext.cell (Ext.grow (hE0.trans hE) m os) c2
      have p3 : ∀ m os, (grow (wr.drewN m) os).cell? ⟨b, o + (lo + hi) / 2 * 4 + 3, none⟩ = some (.int .i64 x.size) := fun m os => Ext.cell (Ext.grow (hE0.trans hE) m os) c3
      have f1 := fun W => compare_any A1 A0 x.row.length n0 d1 d0 x.key x.enc k e x.size s W
      have HX := As.mk hx
      clear hx hcc c0 c1 c2 c3 hE0
      by_cases hq : kcmp x.key x.enc k e < 0
      · have HQ := As.mk hq
        generalize kcmp x.key x.enc k e = q at f1 hq
        go_wp2
        (refine wp_region_quiet_grown (by assumption) (by kernel_rfl) ?_; (repeat (go_big_quiet_step ( (go_at_call 79; exact grown_ext (f1 _)) ))); refine wpQuiet_nil ?_; intro _ hw'; obtain ⟨⟨nq, osq⟩, hw''⟩ := hw'; subst hw'')
        go_wp2
        go_roundg (hi - ((lo + hi) / 2 + 1))
        case measure => omega
        case rel =>
          have hn : As (∀ (t : Nat) (y : GI), t < (lo + hi) / 2 + 1 → z[t]? = some y → kcmp y.key y.enc k e < 0) := ⟨fun t y ht hy => HM.out t ((lo + hi) / 2) y x (by omega) hy HX.out HQ.out⟩
          exact ⟨(lo + hi) / 2 + 1, hi, by go_num, rfl, by omega, hin, by omega, ⟨(by repeat (first | (with_reducible exact Ext.refl _) | (with_reducible assumption) | (with_reducible apply Ext.alloc) | (with_reducible apply Ext.drewN) | (with_reducible apply Ext.drew) | (with_reducible apply Ext.grow) | (with_reducible refine Ext.trans ?_ (by with_reducible assumption))))⟩, hn, HH⟩
      · have HQ := As.mk hq
        generalize kcmp x.key x.enc k e = q at f1 hq
        go_wp2
        (refine wp_region_quiet_grown (by assumption) (by kernel_rfl) ?_; (repeat (go_big_quiet_step ( (go_at_call 79; exact grown_ext (f1 _)) ))); refine wpQuiet_nil ?_; intro _ hw'; obtain ⟨⟨nq, osq⟩, hw''⟩ := hw'; subst hw'')
        go_wp2
        go_roundg ((lo + hi) / 2 - lo)
        case measure => omega
        case rel =>
          have hn : As (∀ (t : Nat) (y : GI), (lo + hi) / 2 ≤ t → z[t]? = some y → 0 ≤ kcmp y.key y.enc k e) := ⟨fun t y ht hy => Int.not_lt.1 fun h => absurd (HM.out ((lo + hi) / 2) t x y ht HX.out hy h) (Int.not_lt.2 HQ.out)⟩
          exact ⟨lo, (lo + hi) / 2, rfl, by go_num, by omega, by omega, by omega, ⟨(by repeat (first | (with_reducible exact Ext.refl _) | (with_reducible assumption) | (with_reducible apply Ext.alloc) | (with_reducible apply Ext.drewN) | (with_reducible apply Ext.drew) | (with_reducible apply Ext.grow) | (with_reducible refine Ext.trans ?_ (by with_reducible assumption))))⟩, HL, hn⟩
    · obtain rfl : hi = lo := by omega
      by_cases hn : hi < z.length
      · have hnz : (hi : Int) < (z.length : Int) := by omega
        obtain ⟨x, hx⟩ : ∃ x, z[hi]? = some x := ⟨_, List.getElem?_eq_getElem hn⟩
        obtain ⟨b, o, c', A1, d1, hv, hb, _, _, _, c0, c1, c2, c3⟩ := RdT.itm HR.out hx
        injection hv with hA _ hcc
        subst hA
        have hE0 := HE0.out
        have p0 : ∀ m os, (grow (wr.drewN m) os).cell? ⟨b, o + hi * 4, none⟩ = some (.string x.key) := fun m os => Ext.cell (Ext.grow (hE0.trans hE) m os) c0
        have p1 : ∀ m os, (grow (wr.drewN m) os).cell? ⟨b, o + hi * 4 + 1, none⟩ = some (.string x.enc) := fun m os => Ext.cell (Ext.grow (hE0.trans hE) m os) c1
        have p2 : ∀ m os, (grow (wr.drewN m) os).cell? ⟨b, o + hi * 4 + 2, none⟩ = some (.slice A1 x.row.length d1) := fun m os => Ext.cell (Ext.grow (hE0.trans hE) m os) c2
        have p3 : ∀ m os, (grow (wr.drewN m) os).cell? ⟨b, o + hi * 4 + 3, none⟩ = some (.int .i64 x.size) := fun m os => Ext.cell (Ext.grow (hE0.trans hE) m os) c3
        have f1 := fun W => compare_any A1 A0 x.row.length n0 d1 d0 x.key x.enc k e x.size s W
        have HF : As (Found (fun x => kcmp x.key x.enc k e) z hi (kcmp x.key x.enc k e == 0)) := ⟨⟨by omega, HL.out, HH.out, by rw [hx]; simp [Bool.beq_eq_decide_eq]⟩⟩
        clear hx hcc c0 c1 c2 c3 hE0
        generalize hq : kcmp x.key x.enc k e = q at f1 HF
        clear hq
        go_wp2
        (refine wp_region_quiet_grown (by assumption) (by kernel_rfl) ?_; (repeat (go_big_quiet_step ( (go_at_call 79; exact grown_ext (f1 _)) ))); refine wpQuiet_nil ?_; intro _ hw'; obtain ⟨⟨nq, osq⟩, hw''⟩ := hw'; subst hw'')
        go_wp2
        go_ret2
        have hE1 := HE0.out
        exact ⟨⟨_, _, rfl, HF.out⟩, (by repeat (first | (with_reducible exact Ext.refl _) | (with_reducible assumption) | (with_reducible apply Ext.alloc) | (with_reducible apply Ext.drewN) | (with_reducible apply Ext.drew) | (with_reducible apply Ext.grow) | (with_reducible refine Ext.trans ?_ (by with_reducible assumption))))⟩
      · have hnz : ¬ (hi : Int) < (z.length : Int) := by omega
        have hnb : decide ((hi : Int) < (z.length : Int)) = false := by simpa using hnz
        have HF : As (Found (fun x => kcmp x.key x.enc k e) z hi false) := ⟨⟨by omega, HL.out, HH.out, by rw [List.getElem?_eq_none (by omega)]⟩⟩
        go_wp2
        (refine wp_region_quiet_grown (by assumption) (by kernel_rfl) ?_; (repeat (go_big_quiet_step ( fail ))); refine wpQuiet_nil ?_; intro _ hw'; obtain ⟨⟨nq, osq⟩, hw''⟩ := hw'; subst hw'')
        go_wp2
        go_ret2
        have hE1 := HE0.out
        exact ⟨⟨_, _, rfl, HF.out⟩, (by repeat (first | (with_reducible exact Ext.refl _) | (with_reducible assumption) | (with_reducible apply Ext.alloc) | (with_reducible apply Ext.drewN) | (with_reducible apply Ext.drew) | (with_reducible apply Ext.grow) | (with_reducible refine Ext.trans ?_ (by with_reducible assumption))))⟩
theorem get1_any (A : Option Addr) (n c : Nat) (k e t : ByteArray) (s : Int) (w : World) :
    Calls Tryz.prog 71 #[.agg #[.string k, .string e, .slice A n c, .int .i64 s], .string t] w fun r w' => r = .returned (.int .i64 (scmp k t)) ∧ Ext w w' := by
  go_enter Tryz.func71, Tryz.ntmps71
  go_wp2_with (go_at_call 72; refine (strCompare_any _ _ _).mono ?_; rintro e w' ⟨rfl, rfl⟩)
  go_ret
  exact ⟨rfl, (by repeat (first | (with_reducible exact Ext.refl _) | (with_reducible assumption) | (with_reducible apply Ext.alloc) | (with_reducible apply Ext.drewN) | (with_reducible apply Ext.drew) | (with_reducible apply Ext.grow) | (with_reducible refine Ext.trans ?_ (by with_reducible assumption))))⟩
set_option maxHeartbeats 2000000 in
theorem bsKey_any (v : Value) (z : List GI) (k : ByteArray) (w : World) (hz : RdT w AnyB v z) (hm : Mono0 (fun x => scmp x.key k) z) :
    Calls Tryz.prog 70 #[v, .string k, .func (.func 71) #[] #[]] w (SearchPost (fun x => scmp x.key k) z w) := by
  have mixed := mixed
  obtain ⟨A, c, rfl, hc⟩ := hz.shape
  have hl := hz.len
  have HR := As.mk hz
  have HM := As.mk hm
  clear hz hm
  go_enter Tryz.func70, Tryz.ntmps70
  go_wp2
  go_loopg [9, 10, 11] z.length (fun g s9 s10 _ wr => ∃ lo hi : Nat, s9 = .int .i64 lo ∧ s10 = .int .i64 hi ∧ lo ≤ hi ∧ hi ≤ z.length ∧ hi - lo ≤ g ∧ As (Ext w wr) ∧
    As (∀ (t : Nat) (x : GI), t < lo → z[t]? = some x → scmp x.key k < 0) ∧ As (∀ (t : Nat) (x : GI), hi ≤ t → z[t]? = some x → 0 ≤ scmp x.key k))
  case atStart => exact ⟨0, z.length, rfl, rfl, Nat.zero_le _, Nat.le_refl _, by omega, ⟨Ext.refl _⟩, ⟨fun t x ht => absurd ht (Nat.not_lt_zero _)⟩, ⟨fun t x h1 h2 => absurd (List.getElem?_eq_some_iff.1 h2).1 (by omega)⟩⟩
  case round =>
    obtain ⟨lo, hi, rfl, rfl, hlh, hin, hg, HE, HL, HH⟩ := hrel
    have hE := HE.out
    by_cases hlt : lo < hi
    · have hltz : (lo : Int) < (hi : Int) := by omega
      obtain ⟨x, hx⟩ : ∃ x, z[(lo + hi) / 2]? = some x := ⟨_, List.getElem?_eq_getElem (by omega)⟩
      obtain ⟨b, o, c', A1, d1, hv, hb, _, _, _, c0, c1, c2, c3⟩ := RdT.itm HR.out hx
      injection hv with hA _ hcc
      subst hA
      have p0 : wr.cell? ⟨b, o + (lo + hi) / 2 * 4, none⟩ = some (.string x.key) := Ext.cell hE c0
      have p1 : wr.cell? ⟨b, o + (lo + hi) / 2 * 4 + 1, none⟩ = some (.string x.enc) := Ext.cell hE c1
      have p2 : wr.cell? ⟨b, o + (lo + hi) / 2 * 4 + 2, none⟩ = some (.slice A1 x.row.length d1) := Ext.cell hE c2
      have p3 : wr.cell? ⟨b, o + (lo + hi) / 2 * 4 + 3, none⟩ = some (.int .i64 x.size) := Ext.cell hE c3
      have f1 := fun W => get1_any A1 x.row.length d1 x.key x.enc k x.size W
      have HX := As.mk hx
      clear hx hcc c0 c1 c2 c3
      by_cases hq : scmp x.key k < 0
      · have HQ := As.mk hq
        generalize scmp x.key k = q at f1 hq
        go_wp2_with (go_at_call 71; refine (f1 _).mono ?_; rintro r w1 ⟨rfl, hE1⟩)
        go_roundg (hi - ((lo + hi) / 2 + 1))
        case measure => omega
        case rel =>
          have hn : As (∀ (t : Nat) (y : GI), t < (lo + hi) / 2 + 1 → z[t]? = some y → scmp y.key k < 0) := ⟨fun t y ht hy => HM.out t ((lo + hi) / 2) y x (by omega) hy HX.out HQ.out⟩
          exact ⟨(lo + hi) / 2 + 1, hi, by go_num, rfl, by omega, hin, by omega, ⟨(by repeat (first | (with_reducible exact Ext.refl _) | (with_reducible assumption) | (with_reducible apply Ext.alloc) | (with_reducible apply Ext.drewN) | (with_reducible apply Ext.drew) | (with_reducible apply Ext.grow) | (with_reducible refine Ext.trans ?_ (by with_reducible assumption))))⟩, hn, HH⟩
      · have HQ := As.mk hq
        generalize scmp x.key k = q at f1 hq
        go_wp2_with (go_at_call 71; refine (f1 _).mono ?_; rintro r w1 ⟨rfl, hE1⟩)
        go_roundg ((lo + hi) / 2 - lo)
        case measure => omega
        case rel =>
          have hn : As (∀ (t : Nat) (y : GI), (lo + hi) / 2 ≤ t → z[t]? = some y → 0 ≤ scmp y.key k) := ⟨fun t y ht hy => Int.not_lt.1 fun h => absurd (HM.out ((lo + hi) / 2) t x y ht HX.out hy h) (Int.not_lt.2 HQ.out)⟩
          exact ⟨lo, (lo + hi) / 2, rfl, by go_num, by omega, by omega, by omega, ⟨(by repeat (first | (with_reducible exact Ext.refl _) | (with_reducible assumption) | (with_reducible apply Ext.alloc) | (with_reducible apply Ext.drewN) | (with_reducible apply Ext.drew) | (with_reducible apply Ext.grow) | (with_reducible refine Ext.trans ?_ (by with_reducible assumption))))⟩, HL, hn⟩
    · obtain rfl : hi = lo := by omega
      by_cases hn : hi < z.length
      · have hnz : (hi : Int) < (z.length : Int) := by omega
        obtain ⟨x, hx⟩ : ∃ x, z[hi]? = some x := ⟨_, List.getElem?_eq_getElem hn⟩
        obtain ⟨b, o, c', A1, d1, hv, hb, _, _, _, c0, c1, c2, c3⟩ := RdT.itm HR.out hx
        injection hv with hA _ hcc
        subst hA
        have p0 : wr.cell? ⟨b, o + hi * 4, none⟩ = some (.string x.key) := Ext.cell hE c0
        have p1 : wr.cell? ⟨b, o + hi * 4 + 1, none⟩ = some (.string x.enc) := Ext.cell hE c1
        have p2 : wr.cell? ⟨b, o + hi * 4 + 2, none⟩ = some (.slice A1 x.row.length d1) := Ext.cell hE c2
        have p3 : wr.cell? ⟨b, o + hi * 4 + 3, none⟩ = some (.int .i64 x.size) := Ext.cell hE c3
        have f1 := fun W => get1_any A1 x.row.length d1 x.key x.enc k x.size W
        have HF : As (Found (fun x => scmp x.key k) z hi (scmp x.key k == 0)) := ⟨⟨by omega, HL.out, HH.out, by rw [hx]; simp [Bool.beq_eq_decide_eq]⟩⟩
        clear hx hcc c0 c1 c2 c3
        generalize hq : scmp x.key k = q at f1 HF
        clear hq
        go_wp2_with (go_at_call 71; refine (f1 _).mono ?_; rintro r w1 ⟨rfl, hE1⟩)
        go_ret2
        exact ⟨⟨_, _, rfl, HF.out⟩, (by repeat (first | (with_reducible exact Ext.refl _) | (with_reducible assumption) | (with_reducible apply Ext.alloc) | (with_reducible apply Ext.drewN) | (with_reducible apply Ext.drew) | (with_reducible apply Ext.grow) | (with_reducible refine Ext.trans ?_ (by with_reducible assumption))))⟩
      · have hnz : ¬ (hi : Int) < (z.length : Int) := by omega
        have hnb : decide ((hi : Int) < (z.length : Int)) = false := by simpa using hnz
        have HF : As (Found (fun x => scmp x.key k) z hi false) := ⟨⟨by omega, HL.out, HH.out, by rw [List.getElem?_eq_none (by omega)]⟩⟩
        go_wp2
        go_ret2
        exact ⟨⟨_, _, rfl, HF.out⟩, (by repeat (first | (with_reducible exact Ext.refl _) | (with_reducible assumption) | (with_reducible apply Ext.alloc) | (with_reducible apply Ext.drewN) | (with_reducible apply Ext.drew) | (with_reducible apply Ext.grow) | (with_reducible refine Ext.trans ?_ (by with_reducible assumption))))⟩
end Go.Proofs.YtflckpfpgpfjlaaGreatDoor
end
section
namespace Go.Proofs.YtflckpfpgpfjlaaGreatDoor
open Go.RowKit Go.Sort
/-- A comparison that is a total order: what sorting and searching need. -/
structure Cmp {α : Type} (c : α → α → Int) : Prop where
  refl : ∀ a, c a a = 0
  flip : ∀ a b, c a b < 0 ↔ 0 < c b a
  trans : ∀ a b d, c a b ≤ 0 → c b d ≤ 0 → c a d ≤ 0
theorem Cmp.eqv {α : Type} {c : α → α → Int} (h : Cmp c) (a b : α) : c a b = 0 ↔ c b a = 0 := by
  have h1 := h.flip a b
  have h2 := h.flip b a
  omega
theorem Cmp.lt_of_lt_of_le {α : Type} {c : α → α → Int} (h : Cmp c) {a b d : α} (h1 : c a b < 0) (h2 : c b d ≤ 0) : c a d < 0 := by
  have h3 := h.trans a b d (by omega) h2
  rcases Int.lt_or_eq_of_le h3 with h4 | h4
  · exact h4
  · have h5 : c d a ≤ 0 := by have := (h.eqv a d).1 h4; omega
    have h6 := h.trans b d a h2 h5
    have := (h.flip a b).1 h1
    omega
theorem Cmp.lt_of_le_of_lt {α : Type} {c : α → α → Int} (h : Cmp c) {a b d : α} (h1 : c a b ≤ 0) (h2 : c b d < 0) : c a d < 0 := by
  have h3 := h.trans a b d h1 (by omega)
  rcases Int.lt_or_eq_of_le h3 with h4 | h4
  · exact h4
  · have h5 : c d a ≤ 0 := by have := (h.eqv a d).1 h4; omega
    have h6 := h.trans d a b h5 h1
    have := (h.flip b d).1 h2
    omega
theorem Cmp.lt_trans {α : Type} {c : α → α → Int} (h : Cmp c) {a b d : α} (h1 : c a b < 0) (h2 : c b d < 0) : c a d < 0 := h.lt_of_lt_of_le h1 (by omega)
/-- First by one, then by another. -/
theorem Cmp.orv {α : Type} {c d : α → α → Int} (hc : Cmp c) (hd : Cmp d) : Cmp (fun a b => orv (c a b) (d a b)) where
  refl a := by simp [Go.Proofs.YtflckpfpgpfjlaaGreatDoor.orv, hc.refl, hd.refl]
  flip a b := by
    have h1 := hc.flip a b; have h2 := hc.flip b a; have h3 := hd.flip a b
    simp only [Go.Proofs.YtflckpfpgpfjlaaGreatDoor.orv]
    split <;> split <;> omega
  trans a b e h1 h2 := by
    simp only [Go.Proofs.YtflckpfpgpfjlaaGreatDoor.orv] at *
    have t := hc.trans a b e
    by_cases k1 : c a b = 0
    · by_cases k2 : c b e = 0
      · have k3 : c a e = 0 := by
          have u1 := hc.trans a b e (by omega) (by omega)
          have v1 := (hc.eqv a b).1 k1; have v2 := (hc.eqv b e).1 k2
          have u2 := hc.trans e b a (by omega) (by omega)
          have := hc.flip a e; have := hc.flip e a
          omega
        rw [if_neg (by omega)] at h1 h2 ⊢
        exact hd.trans a b e h1 h2
      · rw [if_pos k2] at h2
        have := hc.lt_of_le_of_lt (a := a) (b := b) (d := e) (by omega) (by omega)
        rw [if_pos (by omega)]; omega
    · rw [if_pos k1] at h1
      have h2' : c b e ≤ 0 := by split at h2 <;> omega
      have := hc.lt_of_lt_of_le (a := a) (b := b) (d := e) (by omega) h2'
      rw [if_pos (by omega)]; omega
theorem Cmp.comap {α β : Type} {c : α → α → Int} (h : Cmp c) (f : β → α) : Cmp (fun a b => c (f a) (f b)) where
  refl a := h.refl _
  flip a b := h.flip _ _
  trans a b d := h.trans _ _ _
theorem cmpBytes_self : ∀ l, Lib.compareBytes l l = 0
  | [] => rfl
  | a :: l => by
    have h : ¬ a < a := UInt8.lt_irrefl a
    simp [Lib.compareBytes, h, cmpBytes_self l]
theorem cmpBytes_flip : ∀ l m, Lib.compareBytes l m < 0 ↔ 0 < Lib.compareBytes m l
  | [], [] => by simp [Lib.compareBytes]
  | [], _ :: _ => by simp [Lib.compareBytes]
  | _ :: _, [] => by simp [Lib.compareBytes]
  | a :: l, b :: m => by
    have ih := cmpBytes_flip l m
    simp only [Lib.compareBytes]
    by_cases h1 : a < b
    · have h2 : ¬ b < a := fun h => UInt8.lt_irrefl a (UInt8.lt_trans h1 h)
      simp [h1, h2]
    · by_cases h2 : b < a
      · simp [h1, h2]
      · simp only [h1, h2, if_false]; exact ih
theorem cmpBytes_eq : ∀ l m, Lib.compareBytes l m = 0 → l = m
  | [], [], _ => rfl
  | [], _ :: _, h => by simp [Lib.compareBytes] at h
  | _ :: _, [], h => by simp [Lib.compareBytes] at h
  | a :: l, b :: m, h => by
    simp only [Lib.compareBytes] at h
    by_cases h1 : a < b
    · simp [h1] at h
    · by_cases h2 : b < a
      · simp [h1, h2] at h
      · simp only [h1, h2, if_false] at h
        rw [cmpBytes_eq l m h, show a = b from UInt8.le_antisymm (UInt8.not_lt.1 h2) (UInt8.not_lt.1 h1)]
theorem cmpBytes_trans : ∀ l m n, Lib.compareBytes l m ≤ 0 → Lib.compareBytes m n ≤ 0 → Lib.compareBytes l n ≤ 0
  | [], _, [], _, _ => by simp [Lib.compareBytes]
  | [], _, _ :: _, _, _ => by simp [Lib.compareBytes]
  | _ :: _, [], _, h, _ => by simp [Lib.compareBytes] at h
  | _ :: _, _ :: _, [], _, h => by simp [Lib.compareBytes] at h
  | a :: l, b :: m, c :: n, h1, h2 => by
    simp only [Lib.compareBytes] at *
    by_cases k1 : a < b
    · by_cases k2 : b < c
      · simp [UInt8.lt_trans k1 k2]
      · by_cases k3 : c < b
        · simp [k2, k3] at h2
        · have : b = c := UInt8.le_antisymm (UInt8.not_lt.1 k3) (UInt8.not_lt.1 k2)
          subst this; simp [k1]
    · by_cases k1' : b < a
      · simp [k1, k1'] at h1
      · have : a = b := UInt8.le_antisymm (UInt8.not_lt.1 k1') (UInt8.not_lt.1 k1)
        subst this
        simp only [k1, if_false] at h1
        by_cases k2 : a < c
        · simp [k2]
        · by_cases k3 : c < a
          · simp [k2, k3] at h2
          · simp only [k2, k3, if_false] at h2 ⊢
            exact cmpBytes_trans l m n h1 h2
theorem scmp_cmp : Cmp scmp where
  refl a := cmpBytes_self _
  flip a b := cmpBytes_flip _ _
  trans a b d := cmpBytes_trans _ _ _
theorem scmp_eq {a b : ByteArray} (h : scmp a b = 0) : a = b := by
  have := cmpBytes_eq _ _ h
  obtain ⟨⟨a⟩⟩ := a; obtain ⟨⟨b⟩⟩ := b
  simpa using this
theorem gicmp : Cmp GI.cmp := (scmp_cmp.comap GI.key).orv (scmp_cmp.comap GI.enc)
theorem kcmp_eq {k e k' e' : ByteArray} (h : kcmp k e k' e' = 0) : k = k' ∧ e = e' := by
  unfold kcmp orv at h
  by_cases h1 : scmp k k' = 0
  · rw [if_neg (by omega)] at h
    exact ⟨scmp_eq h1, scmp_eq h⟩
  · rw [if_pos h1] at h; exact absurd h h1
theorem kcmp_self (k e : ByteArray) : kcmp k e k e = 0 := by simp [kcmp, orv, scmp_cmp.refl]
/-- A batch's items rise. -/
def Rise (z : List GI) : Prop := z.Pairwise fun x y => x.cmp y < 0
theorem Rise.get {z : List GI} (h : Rise z) {a b : Nat} {x y : GI} (hab : a < b) (hx : z[a]? = some x) (hy : z[b]? = some y) : x.cmp y < 0 := by
  obtain ⟨h1, rfl⟩ := List.getElem?_eq_some_iff.1 hx
  obtain ⟨h2, rfl⟩ := List.getElem?_eq_some_iff.1 hy
  exact List.pairwise_iff_getElem.1 h a b h1 h2 hab
theorem Rise.mono {z : List GI} (h : Rise z) (k e : ByteArray) : Mono0 (fun x => kcmp x.key x.enc k e) z := by
  intro a b x y hab hx hy hlt
  rcases Nat.lt_or_eq_of_le hab with h1 | rfl
  · have := h.get h1 hx hy
    exact gicmp.lt_trans (d := ⟨k, e, [], 0⟩) this hlt
  · rw [hx] at hy; injection hy with hy; subst hy; exact hlt
theorem Rise.monoKey {z : List GI} (h : Rise z) (k : ByteArray) : Mono0 (fun x => scmp x.key k) z := by
  intro a b x y hab hx hy hlt
  rcases Nat.lt_or_eq_of_le hab with h1 | rfl
  · have h2 := h.get h1 hx hy
    have h3 : scmp x.key y.key ≤ 0 := by
      unfold GI.cmp kcmp orv at h2
      split at h2 <;> omega
    exact scmp_cmp.lt_of_le_of_lt h3 hlt
  · rw [hx] at hy; injection hy with hy; subst hy; exact hlt
end Go.Proofs.YtflckpfpgpfjlaaGreatDoor
end
section
namespace Go.Proofs.YtflckpfpgpfjlaaGreatDoor
open Go.RowKit Go.Sort
section
variable {P : Program} {α : Type} {sz : Nat} {E : α → List Value → Prop} {w : World} {ok : Blk} {A : Option Addr} {n c : Nat} {xs : List α} {t e : TypeId} {i : TypeInfo}
theorem add_lit (b o k : Nat) : (⟨b, o, none⟩ : Addr).add k = ⟨b, o + k, none⟩ := by
  unfold Addr.add
  split
  · subst_vars; rfl
  · rfl
theorem RdL.cutAt (h : RdL sz E w ok (.slice A n c) xs) (l r : Nat) (hl : l ≤ r) (hr : r ≤ xs.length) : RdL sz E w ok (.slice (if c = l then A else A.map (·.add (l * sz))) (r - l) (c - l)) ((xs.drop l).take (r - l)) := by
  obtain ⟨A', c', hv, hc, hlen, h⟩ := h
  injection hv with h1 h2 h3
  subst h1 h2 h3
  have hll : ((xs.drop l).take (r - l)).length = r - l := by rw [List.length_take, List.length_drop]; omega
  refine ⟨_, _, by rw [hll], by rw [hll]; omega, by rw [hll]; omega, fun hne => ?_⟩
  have hlt : l < r := by
    rcases Nat.lt_or_ge l r with h' | h'
    · exact h'
    · exact absurd (List.eq_nil_of_length_eq_zero (by rw [hll]; omega)) hne
  obtain ⟨b, o, cells, t, fr, rfl, hb, hh, hx⟩ := h (by rintro rfl; simp at hr; omega)
  rw [if_neg (by omega)]
  refine ⟨b, o + l * sz, cells, t, fr, by simp [add_lit], hb, hh, fun j x hj => ?_⟩
  rw [List.getElem?_take] at hj
  split at hj
  · rw [List.getElem?_drop] at hj
    obtain ⟨cs, e1, e2, e3, e4⟩ := hx _ x hj
    refine ⟨cs, e1, e2, e3, fun i u hu => ?_⟩
    rw [show o + l * sz + j * sz + i = o + (l + j) * sz + i by rw [Nat.add_mul]; omega]
    exact e4 i u hu
  · cases hj
/-- xs[l:] -/
theorem RdL.from (ht : P.underlying t = some (.slice e)) (hi : P.info? e = some i) (hsz : i.size = sz) (h : RdL sz E w ok (.slice A n c) xs) (l : Nat) (hl : l ≤ xs.length) (k : IntKind) :
    ∃ A' : Option Addr, (∀ W : World, (Instr.slice t (.slice A n c) (some (.int k (l : Int))) none none).run P W = .ok (.slice A' (n - l) (c - l)) W) ∧ RdL sz E w ok (.slice A' (n - l) (c - l)) (xs.drop l) := by
  have hn : n = xs.length := by obtain ⟨A', c', hv, _⟩ := h.shape; injection hv
  have h2 := h.cutAt l n (by omega) (by omega)
  rw [List.take_of_length_le (by rw [List.length_drop]; omega)] at h2
  refine ⟨_, fun W => ?_, h2⟩
  have hel : P.elem t = e := by simp [Program.elem, ht]
  have hu : P.underlying t = some (.slice (P.elem t)) := by rw [hel]; exact ht
  rw [run_slice_l W t A n c hu k (l : Int) (Int.natCast_nonneg _) (by omega), hel]
  simp [Go.sizeOf, typeInfo, hi, hsz, sliced, Result.andThen]
/-- xs[:r] -/
theorem RdL.upto (ht : P.underlying t = some (.slice e)) (hi : P.info? e = some i) (hsz : i.size = sz) (h : RdL sz E w ok (.slice A n c) xs) (r : Nat) (hr : r ≤ xs.length) (k : IntKind) :
    (∀ W : World, (Instr.slice t (.slice A n c) none (some (.int k (r : Int))) none).run P W = .ok (.slice A r c) W) ∧ RdL sz E w ok (.slice A r c) (xs.take r) := by
  have hn : n = xs.length ∧ n ≤ c := by obtain ⟨A', c', hv, hc⟩ := h.shape; injection hv; subst_vars; exact ⟨rfl, hc⟩
  have h2 := h.cutAt 0 r (by omega) hr
  have hA : (if c = 0 then A else A.map (·.add (0 * sz))) = A := by split <;> simp [Addr.add]
  rw [hA] at h2
  refine ⟨fun W => ?_, by simpa using h2⟩
  have hel : P.elem t = e := by simp [Program.elem, ht]
  have hu : P.underlying t = some (.slice (P.elem t)) := by rw [hel]; exact ht
  rw [run_slice_h W t A n c hu k (r : Int) (Int.natCast_nonneg _) (by omega), hel]
  rw [Nat.zero_mul] at hA
  simp [Go.sizeOf, typeInfo, hi, hsz, sliced, Result.andThen, hA]
/-- xs[l:r] -/
theorem RdL.part (ht : P.underlying t = some (.slice e)) (hi : P.info? e = some i) (hsz : i.size = sz) (h : RdL sz E w ok (.slice A n c) xs) (l r : Nat) (hl : l ≤ r) (hr : r ≤ xs.length) (k k' : IntKind) :
    ∃ A' : Option Addr, (∀ W : World, (Instr.slice t (.slice A n c) (some (.int k (l : Int))) (some (.int k' (r : Int))) none).run P W = .ok (.slice A' (r - l) (c - l)) W) ∧ RdL sz E w ok (.slice A' (r - l) (c - l)) ((xs.drop l).take (r - l)) := by
  have hn : n = xs.length ∧ n ≤ c := by obtain ⟨A', c', hv, hc⟩ := h.shape; injection hv; subst_vars; exact ⟨rfl, hc⟩
  have h2 := h.cutAt l r hl hr
  refine ⟨_, fun W => ?_, h2⟩
  have hel : P.elem t = e := by simp [Program.elem, ht]
  have hu : P.underlying t = some (.slice (P.elem t)) := by rw [hel]; exact ht
  rw [run_slice_lh W t A n c hu k k' (l : Int) (r : Int) (Int.natCast_nonneg _) (by omega) (by omega), hel]
  simp [Go.sizeOf, typeInfo, hi, hsz, sliced, Result.andThen]
/-- A call's own slice, cut at its end. -/
theorem OwnL.upto {base : Nat} (h : OwnL sz E e w base (.slice A n c) xs) (ht : P.underlying t = some (.slice e)) (hi : P.info? e = some i) (hsz : i.size = sz) (r : Nat) (hr : r ≤ xs.length) (k : IntKind) :
    (∀ W : World, (Instr.slice t (.slice A n c) none (some (.int k (r : Int))) none).run P W = .ok (.slice A r c) W) ∧ OwnL sz E e w base (.slice A r c) (xs.take r) := by
  refine ⟨((h.rd (ok := AnyB) fun _ _ => trivial).upto ht hi hsz r hr k).1, ?_⟩
  obtain ⟨cs, ho, hrep, h1, hl⟩ := h
  have hlen : (xs.take r).length = r := by rw [List.length_take]; omega
  have hrs : r * sz ≤ cs.length := by rw [hrep.1]; exact Nat.mul_le_mul_right _ hr
  refine ⟨cs.take (r * sz), ?_, ⟨?_, fun j x hj => ?_⟩, fun u hu => h1 u (List.mem_of_mem_take hu), by rw [hlen]; omega⟩
  · rw [hlen]
    refine ⟨by rw [List.length_take]; omega, ?_⟩
    rcases ho.2 with ⟨hv, hn⟩ | ⟨g, cap, cur, hv, hb, hh, hc, hm, hs, htk⟩
    · injection hv with h1 h2 h3
      subst h1 h2 h3
      have : r = 0 := by omega
      subst this
      exact .inl ⟨rfl, rfl⟩
    · injection hv with h1 h2 h3
      subst h1 h2 h3
      exact .inr ⟨g, c, cur, rfl, hb, hh, by omega, hm, hs, by rw [← htk, List.take_take, Nat.min_eq_left (Nat.mul_le_mul_right _ hr)]⟩
  · rw [List.length_take, hlen]; omega
  · rw [List.getElem?_take] at hj
    split at hj
    · rename_i hjr
      have := hrep.2 j x hj
      have hb : j * sz + sz ≤ r * sz := by rw [← Nat.succ_mul]; exact Nat.mul_le_mul_right _ hjr
      rw [List.drop_take, List.take_take, Nat.min_eq_left (by omega)]
      exact this
    · cases hj
end
end Go.Proofs.YtflckpfpgpfjlaaGreatDoor
end
section
namespace Go.Proofs.YtflckpfpgpfjlaaGreatDoor
open Go.RowKit Go.Sort
/-- Two items of one row as one. -/
def GI.add (x y : GI) : GI := ⟨x.key, x.enc, x.row, wrap64 (x.size + y.size)⟩
/-- spine.merged -/
def mergeL : List GI → List GI → List GI
  | [], ys => ys
  | xs, [] => xs
  | x :: xs, y :: ys =>
    if x.cmp y < 0 then x :: mergeL xs (y :: ys)
    else if 0 < x.cmp y then y :: mergeL (x :: xs) ys
    else if (x.add y).size ≠ 0 then x.add y :: mergeL xs ys
    else mergeL xs ys
termination_by xs ys => xs.length + ys.length
set_option maxHeartbeats 4000000 in
set_option maxRecDepth 100000 in
theorem merged_any (v u : Value) (xs ys : List GI) (ok : Blk) (w : World) (hx : RdT w ok v xs) (hy : RdT w ok u ys) (hl : xs.length + ys.length ≤ 4294967296) :
    Calls Tryz.prog 73 #[v, u] w fun e w' => ∃ v', e = .returned v' ∧ OwnL 4 (EIt w' ok) 122 w' w.heap.size v' (mergeL xs ys) ∧ Below w.heap.size w w' := by
  have mixed := mixed
  obtain ⟨A, c, rfl, hc⟩ := hx.shape
  obtain ⟨B, d, rfl, hd⟩ := hy.shape
  obtain ⟨i0, hi, hzz⟩ := Option.map_eq_some_iff.1 info_item
  simp only [Prod.mk.injEq] at hzz
  obtain ⟨hz0, hz1, hz2⟩ := hzz
  have hmk := fun W => run_make (P := Tryz.prog) W 133 122 i0 _ Tryz.underlying133 hi hz0 .i64 .i64 0 ((xs.length : Int) + (ys.length : Int)) (by omega) (by omega) (by rw [hz2]; omega) (by omega)
  rw [show ((xs.length : Int) + (ys.length : Int)).toNat = xs.length + ys.length by omega] at hmk
  rw [hz1] at hmk
  have hsz := size_madeCells (Value.agg #[.string ⟨#[]⟩, .string ⟨#[]⟩, .slice none 0 0, .int .i64 0]).cells ((xs.length + ys.length) * 4)
  generalize madeCells (Value.agg #[.string ⟨#[]⟩, .string ⟨#[]⟩, .slice none 0 0, .int .i64 0]).cells ((xs.length + ys.length) * 4) = cur at hmk hsz
  have HX := As.mk hx
  have HY := As.mk hy
  have HO := As.mk (OwnL.made 4 (EIt w ok) 122 w w.heap.size cur (xs.length + ys.length) (Nat.le_refl _) (by simp only [maxLen]; omega) hsz)
  have HB := As.mk ((Below.refl w.heap.size w).alloc (Nat.le_refl _) (.cells cur 122))
  have hz4 := hz1
  have hi0 := hi
  have HZ4 := As.mk hz4
  have HI0 := As.mk hi0
  clear hx hy hz0 hz1 hz2 hi hsz hz4 hi0
  go_enter Tryz.func73, Tryz.ntmps73
  go_wp2
  go_loopg [0, 1, 5, 6, 7] (xs.length + ys.length) (fun g s0 s1 s5 _ _ wr => ∃ (ps qs zs : List GI), ps.length + qs.length ≤ g ∧ As (RdT w ok s0 ps) ∧ As (RdT w ok s1 qs) ∧ As (OwnL 4 (EIt w ok) 122 wr w.heap.size s5 zs) ∧ As (Below w.heap.size w wr) ∧ As (zs ++ mergeL ps qs = mergeL xs ys) ∧ As (zs.length + ps.length + qs.length ≤ xs.length + ys.length))
  case atStart => exact ⟨xs, ys, [], by omega, HX, HY, HO, HB, ⟨rfl⟩, ⟨by simp⟩⟩
  case round =>
    clear HX HY HO HB hc hd
    obtain ⟨ps, qs, zs, hg, HX, HY, HO, HB, HA, HL⟩ := hrel
    obtain ⟨A, c, hv, hc⟩ := HX.out.shape
    obtain ⟨B, d, hu, hd⟩ := HY.out.shape
    subst hv hu
    have hla := HX.out.len
    have hlb := HY.out.len
    cases ps with
    | nil =>
      have hl0 : ¬ (0 : Int) < ((0 : Nat) : Int) := by omega
      have HM : As (zs ++ [] ++ qs = mergeL xs ys) := ⟨by rw [← HA.out]; cases qs <;> simp [mergeL]⟩
      have HLq : As (zs.length + ([] : List GI).length + qs.length ≤ 4294967296) := ⟨by have := HL.out; simp at this ⊢; omega⟩
      have HX1 := As.mk (RdL.move (E' := EIt w ok) HX.out (fun _ _ h => h) (Stays.below HB.out ok))
      have HY1 := As.mk (RdL.move (E' := EIt w ok) HY.out (fun _ _ h => h) (Stays.below HB.out ok))
      have hbz := HB.out.size
      go_wp2_with (first | (at_builtin; refine OwnL.appends w.heap.size rfl (.tmp 73) (.tmp 74) 133 122 _ 4 64 rfl Tryz.underlying133 info_item rfl (by decide) (by decide) u5 zs [] A _ c rfl rfl HX1.out HO.out HB.out hbz (by have := HLq.out; omega) ?_; intro v1 w1 hown hb' hg' hat; have HY2 := As.mk (RdL.move (E' := EIt w ok) HY.out (fun _ _ h => h) (Stays.below hb' ok)); have hbz2 := hb'.size; have HO2 := As.mk hown; have HB2 := As.mk hb'; clear hown hb' hg' hat) | (at_builtin; refine OwnL.appends w.heap.size rfl (.tmp 75) (.tmp 76) 133 122 _ 4 64 rfl Tryz.underlying133 info_item rfl (by decide) (by decide) v1 (zs ++ []) qs B _ d rfl rfl HY2.out HO2.out HB2.out hbz2 (by have := HLq.out; simp at this ⊢; omega) ?_; intro v2 w2 hown hb' hg' hat))
      go_ret
      refine ⟨_, rfl, ?_, hb'⟩
      rw [← HM.out]
      exact hown.imp fun _ _ h => h.mv (Stays.below hb' ok)
    | cons x ps =>
      cases qs with
      | nil =>
        have hl0 : (0 : Int) < (ps.length : Int) + 1 := by omega
        have hl1 : ¬ (0 : Int) < ((0 : Nat) : Int) := by omega
        have HM : As (zs ++ (x :: ps) ++ [] = mergeL xs ys) := ⟨by rw [← HA.out]; simp [mergeL]⟩
        have HLq : As (zs.length + (x :: ps).length + ([] : List GI).length ≤ 4294967296) := ⟨by have := HL.out; simp at this ⊢; omega⟩
        have HX1 := As.mk (RdL.move (E' := EIt w ok) HX.out (fun _ _ h => h) (Stays.below HB.out ok))
        have HY1 := As.mk (RdL.move (E' := EIt w ok) HY.out (fun _ _ h => h) (Stays.below HB.out ok))
        have hbz := HB.out.size
        go_wp2_with (first | (at_builtin; refine OwnL.appends w.heap.size rfl (.tmp 73) (.tmp 74) 133 122 _ 4 64 rfl Tryz.underlying133 info_item rfl (by decide) (by decide) u5 zs (x :: ps) A _ c rfl rfl HX1.out HO.out HB.out hbz (by have := HLq.out; omega) ?_; intro v1 w1 hown hb' hg' hat; have HY2 := As.mk (RdL.move (E' := EIt w ok) HY.out (fun _ _ h => h) (Stays.below hb' ok)); have hbz2 := hb'.size; have HO2 := As.mk hown; have HB2 := As.mk hb'; clear hown hb' hg' hat) | (at_builtin; refine OwnL.appends w.heap.size rfl (.tmp 75) (.tmp 76) 133 122 _ 4 64 rfl Tryz.underlying133 info_item rfl (by decide) (by decide) v1 (zs ++ (x :: ps)) [] B _ d rfl rfl HY2.out HO2.out HB2.out hbz2 (by have := HLq.out; simp at this ⊢; omega) ?_; intro v2 w2 hown hb' hg' hat))
        go_ret
        refine ⟨_, rfl, ?_, hb'⟩
        rw [← HM.out]
        exact hown.imp fun _ _ h => h.mv (Stays.below hb' ok)
      | cons y qs =>
        obtain ⟨b, o, c', A1, d1, hv, hb, hxi, hxr, HXE, c0, c1, c2, c3⟩ := RdT.itm HX.out (j := 0) rfl
        injection hv with hA _ hcc
        subst hA
        obtain ⟨b2, o2, c2', A2, d2, hv2, hb2, hyi, hyr, HYE, e0, e1, e2, e3⟩ := RdT.itm HY.out (j := 0) rfl
        injection hv2 with hA2 _ hcc2
        subst hA2
        simp only [Nat.zero_mul, Nat.add_zero] at c0 c1 c2 c3 e0 e1 e2 e3
        clear hcc hcc2
        have f1 := fun W => compare_any A1 A2 x.row.length y.row.length d1 d2 x.key x.enc y.key y.enc x.size y.size W
        have hl0 : (0 : Int) < (ps.length : Int) + 1 := by omega
        have hl1 : (0 : Int) < (qs.length : Int) + 1 := by omega
        generalize hq : kcmp x.key x.enc y.key y.enc = q at f1
        have HQ := As.mk hq
        clear hq
        replace c0 := (HB.out.cell hb).trans c0; replace c1 := (HB.out.cell hb).trans c1; replace c2 := (HB.out.cell hb).trans c2; replace c3 := (HB.out.cell hb).trans c3
        replace e0 := (HB.out.cell hb2).trans e0; replace e1 := (HB.out.cell hb2).trans e1; replace e2 := (HB.out.cell hb2).trans e2; replace e3 := (HB.out.cell hb2).trans e3
        have g0 := gc c0; have g1 := gc c1; have g2 := gc c2; have g3 := gc c3
        have k0 := gc e0; have k1 := gc e1; have k2 := gc e2; have k3 := gc e3
        obtain ⟨AX, hcx, hrx⟩ := HX.out.from Tryz.underlying133 HI0.out HZ4.out 1 (by simp) .i64
        obtain ⟨AY, hcy, hry⟩ := HY.out.from Tryz.underlying133 HI0.out HZ4.out 1 (by simp) .i64
        have HRX := As.mk hrx
        have HRY := As.mk hry
        clear hrx hry
        by_cases hlt : q < 0
        · have hgt : ¬ 0 < q := by omega
          go_wp2
          (refine wp_region_quiet_grown (by assumption) (by kernel_rfl) ?_; (repeat (go_big_quiet_step ( (go_at_call 79; exact grown_ext (f1 _)) ))); refine wpQuiet_nil ?_; intro _ hw'; obtain ⟨⟨nq, osq⟩, hw''⟩ := hw'; subst hw'')
          clear g0 g1 g2 g3 k0 k1 k2 k3
          go_wp2
          generalize hw2 : grow (wr.drewN nq) osq = w2 at *
          have hE2 : Ext wr w2 := hw2 ▸ ⟨nq, osq, rfl⟩
          clear hw2
          replace c0 := hE2.cell c0; replace c1 := hE2.cell c1; replace c2 := hE2.cell c2; replace c3 := hE2.cell c3
          clear e0 e1 e2 e3
          have hcx' : ∀ W, (Instr.slice 133 (.slice (some ⟨b, o, none⟩) (ps.length + 1) c) (some (.int .i64 1)) none none).run Tryz.prog W = .ok (.slice AX ps.length (c - 1)) W := fun W => hcx W
          clear hcx hcy
          have HO2 := As.mk ((HO.out.ext hE2).ext (Ext.drew (Ext.refl w2)))
          have HB2 := As.mk (HB.out.trans (hE2.below.mono HB.out.size)).drew
          have hbz : w.heap.size ≤ w2.drew.heap.size := HB2.out.size
          have HLZ : As (zs.length < 4294967296) := ⟨by have := HL.out; simp at this; omega⟩
          go_region_law ((refine OwnL.append_step (W := w2.drew) w.heap.size rfl (.tmp 54) (.tmp 58) 133 122 _ 4 64 rfl Tryz.underlying133 info_item rfl (by decide) (by decide) u5 zs x [.string x.key, .string x.enc, .slice A1 x.row.length d1, .int .i64 x.size] rfl rfl (E := EIt w ok) HXE rfl (by simp [Value.oneCell']) HO2.out HB2.out hbz HLZ.out rfl ?_; intro v1 w3 hown hb' hg'))
          have HOUT := As.mk hown
          have HBUT := As.mk hb'
          clear hown hb' hg'
          go_wp2
          go_roundg (ps.length + (qs.length + 1))
          case measure => simp at hg; omega
          case rel => exact ⟨ps, y :: qs, zs ++ [x], by simp, HRX, HY, HOUT, HBUT, ⟨by rw [← HA.out, mergeL, if_pos (show x.cmp y < 0 from by unfold GI.cmp; rw [HQ.out]; exact hlt)]; simp⟩, ⟨by have := HL.out; simp at this ⊢; omega⟩⟩
        · by_cases hgt : 0 < q
          · have hlt' : ¬ q < 0 := hlt
            go_wp2
            (refine wp_region_quiet_grown (by assumption) (by kernel_rfl) ?_; (repeat (go_big_quiet_step ( (go_at_call 79; exact grown_ext (f1 _)) ))); refine wpQuiet_nil ?_; intro _ hw'; obtain ⟨⟨nq, osq⟩, hw''⟩ := hw'; subst hw'')
            clear g0 g1 g2 g3 k0 k1 k2 k3
            go_wp2
            generalize hw2 : grow (wr.drewN nq) osq = w2 at *
            have hE2 : Ext wr w2 := hw2 ▸ ⟨nq, osq, rfl⟩
            clear hw2
            replace e0 := hE2.cell e0; replace e1 := hE2.cell e1; replace e2 := hE2.cell e2; replace e3 := hE2.cell e3
            clear c0 c1 c2 c3
            have hcy' : ∀ W, (Instr.slice 133 (.slice (some ⟨b2, o2, none⟩) (qs.length + 1) d) (some (.int .i64 1)) none none).run Tryz.prog W = .ok (.slice AY qs.length (d - 1)) W := fun W => hcy W
            clear hcx hcy
            have HO2 := As.mk ((HO.out.ext hE2).ext (Ext.drew (Ext.refl w2)))
            have HB2 := As.mk (HB.out.trans (hE2.below.mono HB.out.size)).drew
            have hbz : w.heap.size ≤ w2.drew.heap.size := HB2.out.size
            have HLZ : As (zs.length < 4294967296) := ⟨by have := HL.out; simp at this; omega⟩
            go_region_law ((refine OwnL.append_step (W := w2.drew) w.heap.size rfl (.tmp 65) (.tmp 69) 133 122 _ 4 64 rfl Tryz.underlying133 info_item rfl (by decide) (by decide) u5 zs y [.string y.key, .string y.enc, .slice A2 y.row.length d2, .int .i64 y.size] rfl rfl (E := EIt w ok) HYE rfl (by simp [Value.oneCell']) HO2.out HB2.out hbz HLZ.out rfl ?_; intro v1 w3 hown hb' hg'))
            have HOUT := As.mk hown
            have HBUT := As.mk hb'
            clear hown hb' hg'
            go_wp2
            go_roundg (ps.length + 1 + qs.length)
            case measure => simp at hg; omega
            case rel => exact ⟨x :: ps, qs, zs ++ [y], by simp, HX, HRY, HOUT, HBUT, ⟨by rw [← HA.out, mergeL, if_neg (show ¬ x.cmp y < 0 from by unfold GI.cmp; rw [HQ.out]; omega), if_pos (show 0 < x.cmp y from by unfold GI.cmp; rw [HQ.out]; exact hgt)]; simp⟩, ⟨by have := HL.out; simp at this ⊢; omega⟩⟩
          · obtain rfl : q = 0 := by omega
            go_wp2
            (refine wp_region_quiet_grown (by assumption) (by kernel_rfl) ?_; (repeat (go_big_quiet_step ( (go_at_call 79; exact grown_ext (f1 _)) ))); refine wpQuiet_nil ?_; intro _ hw'; obtain ⟨⟨nq, osq⟩, hw''⟩ := hw'; subst hw'')
            clear g0 g1 g2 g3 k0 k1 k2 k3
            generalize hw2 : grow (wr.drewN nq) osq = w2 at *
            have hE2 : Ext wr w2 := hw2 ▸ ⟨nq, osq, rfl⟩
            clear hw2
            replace c0 := hE2.cell c0; replace c1 := hE2.cell c1; replace c2 := hE2.cell c2; replace c3 := hE2.cell c3
            replace e0 := hE2.cell e0; replace e1 := hE2.cell e1; replace e2 := hE2.cell e2; replace e3 := hE2.cell e3
            have hcx' : ∀ W, (Instr.slice 133 (.slice (some ⟨b, o, none⟩) (ps.length + 1) c) (some (.int .i64 1)) none none).run Tryz.prog W = .ok (.slice AX ps.length (c - 1)) W := fun W => hcx W
            have hcy' : ∀ W, (Instr.slice 133 (.slice (some ⟨b2, o2, none⟩) (qs.length + 1) d) (some (.int .i64 1)) none none).run Tryz.prog W = .ok (.slice AY qs.length (d - 1)) W := fun W => hcy W
            clear hcx hcy
            have hb3 : b2 < w2.heap.size := Nat.lt_of_lt_of_le hb2 (Nat.le_trans HB.out.size hE2.size)
            go_wp2
            obtain ⟨v0, hv0, hxs, hxk, hxe, hxr'⟩ := HXE
            have HXE2 : EIt w ok (x.add y) [.string x.key, .string x.enc, .slice A1 x.row.length d1, .int .i64 (wrap64 (x.size + y.size))] := ⟨_, rfl, by unfold GI.add i64; simp only; unfold wrap64; omega, hxk, hxe, hxr⟩
            have hmz : mergeL (x :: ps) (y :: qs) = if wrap64 (x.size + y.size) ≠ 0 then x.add y :: mergeL ps qs else mergeL ps qs := by
              have : x.cmp y = 0 := HQ.out
              rw [mergeL, if_neg (by omega), if_neg (by omega)]; rfl
            clear HYE hv0 hxs hxk hxe hxr' v0
            go_region
            generalize wrap64 (x.size + y.size) = sm at *
            have hcl : ∀ i, (w2.alloc (.cells #[.string x.key, .string x.enc, .slice A1 x.row.length d1, .int .i64 sm] 122)).drew.cell? ⟨w2.heap.size, i, none⟩ = (#[.string x.key, .string x.enc, .slice A1 x.row.length d1, .int .i64 sm] : Array Value)[i]? := fun i => by simp
            have hE3 : Ext w2 (w2.alloc (.cells #[.string x.key, .string x.enc, .slice A1 x.row.length d1, .int .i64 sm] 122)).drew := (by repeat (first | (with_reducible exact Ext.refl _) | (with_reducible assumption) | (with_reducible apply Ext.alloc) | (with_reducible apply Ext.drewN) | (with_reducible apply Ext.drew) | (with_reducible apply Ext.grow) | (with_reducible refine Ext.trans ?_ (by with_reducible assumption))))
            have hwn : w2.heap.size < (w2.alloc (.cells #[.string x.key, .string x.enc, .slice A1 x.row.length d1, .int .i64 sm] 122)).drew.heap.size := by simp
            generalize hw3 : (w2.alloc (.cells #[.string x.key, .string x.enc, .slice A1 x.row.length d1, .int .i64 sm] 122)).drew = w3 at *
            have hc0 : w3.cell? ⟨w2.heap.size, 0, none⟩ = some (.string x.key) := hcl 0
            have hc1 : w3.cell? ⟨w2.heap.size, 1, none⟩ = some (.string x.enc) := hcl 1
            have hc2 : w3.cell? ⟨w2.heap.size, 2, none⟩ = some (.slice A1 x.row.length d1) := hcl 2
            have hc3 : w3.cell? ⟨w2.heap.size, 3, none⟩ = some (.int .i64 sm) := hcl 3
            clear hcl hw3 c0 c1 c2 c3 e0 e1 e2 e3
            have HO3 := As.mk ((HO.out.ext hE2).ext hE3)
            have HB3 := As.mk ((HB.out.trans (hE2.below.mono HB.out.size)).trans (hE3.below.mono (Nat.le_trans HB.out.size hE2.size)))
            have hbz : w.heap.size ≤ w3.heap.size := HB3.out.size
            have HLZ : As (zs.length < 4294967296) := ⟨by have := HL.out; simp at this; omega⟩
            by_cases hs0 : sm = 0
            · have hsb : (sm != 0) = false := by simpa using hs0
              have HMZ : As (mergeL (x :: ps) (y :: qs) = mergeL ps qs) := ⟨by rw [hmz, if_neg (by simpa using hs0)]⟩
              clear hmz hs0
              go_wp2
              go_quiet (fail)
              go_wp2
              go_roundg (ps.length + qs.length)
              case measure => simp at hg; omega
              case rel => exact ⟨ps, qs, zs, by omega, HRX, HRY, ⟨HO3.out.ext (by repeat (first | (with_reducible exact Ext.refl _) | (with_reducible assumption) | (with_reducible apply Ext.alloc) | (with_reducible apply Ext.drewN) | (with_reducible apply Ext.drew) | (with_reducible apply Ext.grow) | (with_reducible refine Ext.trans ?_ (by with_reducible assumption))))⟩, ⟨HB3.out.trans ((Ext.below (by repeat (first | (with_reducible exact Ext.refl _) | (with_reducible assumption) | (with_reducible apply Ext.alloc) | (with_reducible apply Ext.drewN) | (with_reducible apply Ext.drew) | (with_reducible apply Ext.grow) | (with_reducible refine Ext.trans ?_ (by with_reducible assumption))))).mono hbz)⟩, ⟨by rw [← HA.out, HMZ.out]⟩, ⟨by have := HL.out; simp at this ⊢; omega⟩⟩
            · have hsb : (sm != 0) = true := by simpa using hs0
              have HMZ : As (mergeL (x :: ps) (y :: qs) = x.add y :: mergeL ps qs) := ⟨by rw [hmz, if_pos hs0]⟩
              clear hmz hs0
              go_wp2_with (at_builtin; go_loud (refine OwnL.append (W := w3) w.heap.size rfl (.tmp 43) (.tmp 45) 133 122 _ 4 64 rfl Tryz.underlying133 info_item rfl (by decide) (by decide) u5 zs (x.add y) [.string x.key, .string x.enc, .slice A1 x.row.length d1, .int .i64 sm] rfl rfl (E := EIt w ok) HXE2 rfl (by simp [Value.oneCell']) HO3.out HB3.out hbz HLZ.out rfl ?_); intro v1 w4 hown hb' hg' hat)
              have HOUT := As.mk hown
              have HBUT := As.mk hb'
              clear hown hb' hg' hat
              go_wp2
              go_quiet (fail)
              go_wp2
              go_roundg (ps.length + qs.length)
              case measure => simp at hg; omega
              case rel => exact ⟨ps, qs, zs ++ [x.add y], by omega, HRX, HRY, ⟨HOUT.out.ext (by repeat (first | (with_reducible exact Ext.refl _) | (with_reducible assumption) | (with_reducible apply Ext.alloc) | (with_reducible apply Ext.drewN) | (with_reducible apply Ext.drew) | (with_reducible apply Ext.grow) | (with_reducible refine Ext.trans ?_ (by with_reducible assumption))))⟩, ⟨HBUT.out.trans ((Ext.below (by repeat (first | (with_reducible exact Ext.refl _) | (with_reducible assumption) | (with_reducible apply Ext.alloc) | (with_reducible apply Ext.drewN) | (with_reducible apply Ext.drew) | (with_reducible apply Ext.grow) | (with_reducible refine Ext.trans ?_ (by with_reducible assumption))))).mono HBUT.out.size)⟩, ⟨by rw [← HA.out, HMZ.out]; simp⟩, ⟨by have := HL.out; simp at this ⊢; omega⟩⟩
end Go.Proofs.YtflckpfpgpfjlaaGreatDoor
end
