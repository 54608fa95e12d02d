/- The walks of slices.Grow and slices.Concat of rows. A side's bag asked: Get and Weight of a spine that holds z. The walk of a side's met. -/
import Derived.Test.YtflckpfpgpfjlaaGreatDoorMJe
import Derived.Test.YtflckpfpgpfjlaaGreatDoorMZadd
set_option linter.unusedVariables false
set_option linter.unusedSimpArgs false
section
namespace Go.Proofs.YtflckpfpgpfjlaaGreatDoor
open Go.RowKit Go.Sort
set_option maxHeartbeats 2000000 in
set_option maxRecDepth 100000 in
theorem growR_any (n : Nat) (w : World) (hn : n ≤ 4294967296) : Calls Tryz.prog 120 #[.slice none 0 0, .int .i64 n] w fun e w' => ∃ v, e = .returned v ∧ Below w.heap.size w w' ∧ OwnL 4 EV 96 w' w.heap.size v [] := by
  by_cases h0 : n = 0
  · subst h0
    go_enter Tryz.func120, Tryz.ntmps120
    go_wp2_with fail
    go_ret
    exact ⟨_, rfl, Below.refl _ _, OwnL.nil _ _ _ _ _⟩
  · have hnz : (0 : Int) < (n : Int) := by omega
    have h1 : ¬ (n : Int) < 0 := by omega
    have hnp : 0 < n := by omega
    have hby : Tryz.t96.bytes = 40 := by kernel_rfl
    have hnc : Builtin.nextslicecap n 0 = n := by unfold Builtin.nextslicecap; simp; omega
    have hb1 : ¬ 281474976710656 < n * 40 := by omega
    have hb2 : (n : Int) * 40 ≤ 281474976710656 := by omega
    have hn2 : ¬ n * 4 = 0 := by omega
    have hn3 : (n : Int) ≤ 9223372036854775807 := by omega
    have HNN := As.mk hn
    go_enter Tryz.func120, Tryz.ntmps120
    go_wp2_with fail
    go_ret
    have hcap : n ≤ (Question.appendCap n 0 96).cut (w.tape w.drawn (Question.appendCap n 0 96)) ∧ (Question.appendCap n 0 96).cut (w.tape w.drawn (Question.appendCap n 0 96)) ≤ maxLen := by
      unfold Question.cut maxLen
      have h := Nat.mod_lt (w.tape w.drawn (Question.appendCap n 0 96)) (show 0 < 2 ^ 63 - n by have := HNN.out; omega)
      have := HNN.out
      simp only
      omega
    generalize (Question.appendCap n 0 96).cut (w.tape w.drawn (Question.appendCap n 0 96)) = cap at *
    refine ⟨_, rfl, ((Below.refl _ _).alloc (Nat.le_refl _) _).drew, ?_⟩
    exact (OwnL.made 4 EV 96 w w.heap.size _ cap (Nat.le_refl _) hcap.2 (by simp [size_zeroCells]; omega)).ext (Ext.drew (Ext.refl _))
set_option maxHeartbeats 2000000 in
set_option maxRecDepth 100000 in
theorem concatR_any (kb : Nat) (A B : Option Addr) (c d : Nat) (a b : List GV) (w : World) (h0 : w.cell? ⟨kb, 0, none⟩ = some (.slice A a.length c)) (h1 : w.cell? ⟨kb, 1, none⟩ = some (.slice B b.length d)) (ha : RdV w AnyB (.slice A a.length c) a) (hb : RdV w AnyB (.slice B b.length d) b) (hl : a.length + b.length ≤ 4294967296) :
    Calls Tryz.prog 68 #[.slice (some ⟨kb, 0, none⟩) 2 2] w fun e w' => ∃ v, e = .returned v ∧ RdV w' (Fresh w.heap.size [96]) v (a ++ b) ∧ Below w.heap.size w w' := by
  have hx1 : IntKind.i64.wrap ((a.length : Int) + (b.length : Int)) = (a.length : Int) + (b.length : Int) := by rw [IntKind.wrap_i64]; omega
  have hx0 : IntKind.i64.wrap (a.length : Int) = (a.length : Int) := by rw [IntKind.wrap_i64]; omega
  have hlt := World.block_lt_of_cell? w _ h0
  have HA := As.mk ha
  have HB := As.mk hb
  have HG := As.mk (fun W => growR_any (a.length + b.length) W hl)
  have HL := As.mk hl
  have hn0 : ¬ (a.length : Int) < 0 := by omega
  have hn1 : ¬ (a.length : Int) + (b.length : Int) < 0 := by omega
  have hlt' : kb < w.heap.size := hlt
  clear ha hb hlt
  go_enter Tryz.func68, Tryz.ntmps68
  go_wp2_with fail
  go_loopg [3, 5, 11] 2 (fun g s3 _ s11 wr => w = wr ∧ ((s11 = .int .i64 0 ∧ s3 = .int .i64 0 ∧ 2 ≤ g) ∨ (s11 = .int .i64 1 ∧ s3 = .int .i64 a.length ∧ 1 ≤ g) ∨ (s11 = .int .i64 2 ∧ s3 = .int .i64 ((a.length : Int) + (b.length : Int)))))
  case atStart => exact ⟨rfl, .inl ⟨rfl, rfl, by omega⟩⟩
  case round =>
    obtain ⟨rfl, ⟨rfl, rfl, hg⟩ | ⟨rfl, rfl, hg⟩ | ⟨rfl, rfl⟩⟩ := hrel
    · go_wp2_with fail
      go_roundg 1
      case measure => omega
      case rel => exact ⟨rfl, .inr (.inl ⟨rfl, by first | rfl | simp, by omega⟩)⟩
    · go_wp2_with fail
      go_roundg 0
      case measure => omega
      case rel => exact ⟨rfl, .inr (.inr ⟨rfl, rfl⟩)⟩
    · go_wp2_with fail
      refine (HG.out _).mono ?_
      rintro e w1 ⟨v1, rfl, hB1, hown⟩
      have HO1 := As.mk hown
      have HB1 := As.mk hB1
      clear hown hB1
      obtain ⟨A1, c1, rfl, _⟩ := HO1.out.shape
      go_wp2_with fail
      go_loopg [6, 8, 27] 2 (fun g s6 _ s27 wr => As (Below w.heap.size w wr) ∧ ((s27 = .int .i64 0 ∧ As (OwnL 4 EV 96 wr w.heap.size s6 []) ∧ 2 ≤ g) ∨ (s27 = .int .i64 1 ∧ As (OwnL 4 EV 96 wr w.heap.size s6 a) ∧ 1 ≤ g) ∨ (s27 = .int .i64 2 ∧ As (OwnL 4 EV 96 wr w.heap.size s6 (a ++ b)))))
      case atStart => exact ⟨HB1, .inl ⟨rfl, HO1, by omega⟩⟩
      case round =>
        obtain ⟨HBW, ⟨rfl, HO, hg⟩ | ⟨rfl, HO, hg⟩ | ⟨rfl, HO⟩⟩ := hrel
        · have c0 := (HBW.out.cell (p := ⟨kb, 0, none⟩) hlt').trans h0
          have HR := As.mk (HA.out.ext HBW.out)
          have hbz := HBW.out.size
          have HLL : As (([] : List GV).length + a.length ≤ 4294967296) := ⟨by have := HL.out; simp; omega⟩
          go_wp2_with (at_builtin; refine OwnL.appends w.heap.size rfl (.tmp 31) (.tmp 32) 64 96 _ 4 40 rfl Tryz.underlying64 info_val rfl (by decide) (by decide) _ [] a _ _ _ rfl rfl HR.out HO.out HBW.out hbz HLL.out ?_; intro v2 w2 hown hb2 hg2 hat; have HO2 := As.mk hown; have HB2 := As.mk hb2; clear hown hb2 hg2 hat)
          go_roundg 1
          case measure => omega
          case rel => exact ⟨HB2, .inr (.inl ⟨rfl, HO2, by omega⟩)⟩
        · have c0 := (HBW.out.cell (p := ⟨kb, 1, none⟩) hlt').trans h1
          have HR := As.mk (HB.out.ext HBW.out)
          have hbz := HBW.out.size
          go_wp2_with (at_builtin; refine OwnL.appends w.heap.size rfl (.tmp 31) (.tmp 32) 64 96 _ 4 40 rfl Tryz.underlying64 info_val rfl (by decide) (by decide) _ a b _ _ _ rfl rfl HR.out HO.out HBW.out hbz HL.out ?_; intro v2 w2 hown hb2 hg2 hat; have HO2 := As.mk hown; have HB2 := As.mk hb2; clear hown hb2 hg2 hat)
          go_roundg 0
          case measure => omega
          case rel => exact ⟨HB2, .inr (.inr ⟨rfl, HO2⟩)⟩
        · go_wp2_with fail
          go_ret
          exact ⟨_, rfl, HO.out.rd fun k hk => ⟨hk, by simp⟩, HBW.out⟩
end Go.Proofs.YtflckpfpgpfjlaaGreatDoor
end
section
namespace Go.Proofs.YtflckpfpgpfjlaaGreatDoor
open Go.RowKit Go.Sort
/-- What Get answers, of a bag that holds z. -/
def BagPost (cols : List Int) (z : List GE) (key : List GV) (w : World) (e : Ending) (w' : World) : Prop := ∃ A c, e = .returned (.slice A (z.filter fun x => keyIs cols key x.row).length c) ∧ RdZ2 w' w.heap.size (.slice A (z.filter fun x => keyIs cols key x.row).length c) (z.filter fun x => keyIs cols key x.row) ∧ Below w.heap.size w w'
theorem bagGet_any (base : Nat → Prop) (b : Nat) (S : GS) (z : List GE) (v : Value) (key : List GV) (w : World) (hw : GW w) (hr : RdV w AnyB v key) (hk : RowOk key) (h : SpAt base b w S) (hi : Inv S) (ht : Told S z) (hH : heldL S.bs ≤ 4294967296) :
    Calls Tryz.prog 34 #[.pointer (some ⟨b, 0, none⟩), v] w (BagPost S.cols z key w) := by
  refine (get_any base b S v key w hw hr hk.1 h (fun y hy => (hi.fine y hy).1) hH fun y hy u hu => (hi.row y hy u hu).1.1).mono ?_
  rintro e w' ⟨v', rfl, hB, xs, hp, hs, hrd⟩
  obtain rfl := told_get hi ht hk hp hs
  obtain ⟨A, c, rfl, _⟩ := hrd.shape
  exact ⟨A, c, rfl, hrd, hB⟩
theorem bagWeight_any (base : Nat → Prop) (b : Nat) (S : GS) (z : List GE) (v : Value) (r : List GV) (w : World) (hw : GW w) (hr : RdV w AnyB v r) (hk : RowOk r) (h : SpAt base b w S) (hi : Inv S) (ht : Told S z) :
    Calls Tryz.prog 30 #[.pointer (some ⟨b, 0, none⟩), v] w fun e w' => e = .returned (.int .i64 (zw z r)) ∧ Below w.heap.size w w' := by
  have h1 := spWeight_any base b S v r w hw h (fun y hy => (hi.fine y hy).1) hr
  rw [told_weight ht hk] at h1
  exact h1
end Go.Proofs.YtflckpfpgpfjlaaGreatDoor
end
section
namespace Go.Proofs.YtflckpfpgpfjlaaGreatDoor
open Go.RowKit Go.Sort
/-- A span's cells. -/
def ESp (w : World) (ok : Blk) (x : GSp) (cs : List Value) : Prop := ∃ v, cs = [v, .int .i64 x.before, .int .i64 x.now] ∧ i64 x.before ∧ i64 x.now ∧ RdV w ok v x.row
theorem ESp.mv {w w' : World} {ok ok' : Blk} {x : GSp} {cs : List Value} (h : ESp w ok x cs) (hs : Stays w w' ok ok') : ESp w' ok' x cs := let ⟨v, h1, h2, h3, h4⟩ := h; ⟨v, h1, h2, h3, h4.mv hs⟩
/-- A slice of spans, rows and all. -/
def RdS (w : World) (ok : Blk) (v : Value) (xs : List GSp) : Prop := RdL 3 (ESp w ok) w ok v xs
theorem info_span : (Tryz.prog.info? 83).map (fun i => (i.zero, i.size, i.bytes)) = some (some (.agg #[.slice none 0 0, .int .i64 0, .int .i64 0]), 3, 40) := by kernel_rfl
/-- Rows that stood before the block n, or lie in blocks of values. -/
def Row0 (n : Nat) : Blk := fun k t => k < n ∨ t = 96
theorem RdE.ent {w : World} {ok ok2 : Blk} {v : Value} {z : List GE} (h : RdL 2 (EE w ok) w ok2 v z) {j : Nat} {x : GE} (hj : z[j]? = some x) : ∃ b o c A d, v = .slice (some ⟨b, o, none⟩) z.length c ∧ b < w.heap.size ∧ i64 x.w ∧
    RdV w ok (.slice A x.row.length d) x.row ∧ w.cell? ⟨b, o + j * 2, none⟩ = some (.slice A x.row.length d) ∧ w.cell? ⟨b, o + j * 2 + 1, none⟩ = some (.int .i64 x.w) := by
  obtain ⟨b, o, c, hv, hb, cs, _, ⟨u, rfl, hx, hr⟩, _, hc⟩ := h.at hj
  obtain ⟨A, d, rfl, _⟩ := hr.shape
  exact ⟨b, o, c, A, d, hv, hb, hx, hr, hc 0 _ rfl, hc 1 _ rfl⟩
def MetPost (n0 : Nat) (cols : List Int) (z d : List GE) (key : List GV) (w : World) (e : Ending) (w' : World) : Prop := ∃ A c, e = .returned (.slice A (metL cols z d key).length c) ∧ RdL 3 (ESp w' (Row0 n0)) w' (Fresh w.heap.size [83]) (.slice A (metL cols z d key).length c) (metL cols z d key) ∧ Below w.heap.size w w'
/-- What the first loop gathers. -/
def metA (d : List GE) (ys : List GE) : List GSp := ys.map fun y => ⟨y.row, y.w, wrap64 (y.w + zw d y.row)⟩
theorem metA_snoc (d ys : List GE) (y : GE) : metA d (ys ++ [y]) = metA d ys ++ [⟨y.row, y.w, wrap64 (y.w + zw d y.row)⟩] := by simp [metA]
/-- What the second loop gathers. -/
def metB (cols : List Int) (z : List GE) (key : List GV) (ds : List GE) : List GSp := (ds.filter fun y => sameR (keyOf cols y.row) key && decide (zw z y.row = 0)).map fun y => ⟨y.row, 0, y.w⟩
theorem metB_snoc (cols : List Int) (z : List GE) (key : List GV) (ds : List GE) (y : GE) : metB cols z key (ds ++ [y]) = metB cols z key ds ++ (if (sameR (keyOf cols y.row) key && decide (zw z y.row = 0)) = true then [⟨y.row, 0, y.w⟩] else []) := by
  unfold metB
  rw [List.filter_append, List.map_append]
  congr 1
  by_cases h : (sameR (keyOf cols y.row) key && decide (zw z y.row = 0)) = true
  · rw [if_pos h, List.filter_cons, if_pos h]; rfl
  · rw [if_neg h, List.filter_cons, if_neg h]; rfl
theorem metL_eq (cols : List Int) (z d : List GE) (key : List GV) : metL cols z d key = metA d (z.filter fun y => keyIs cols key y.row) ++ metB cols z key d := rfl
end Go.Proofs.YtflckpfpgpfjlaaGreatDoor
end
