/- The reference's Width, of the plan of a join. -/
import Derived.Test.YtflckpfpgpfjlaaGreatDoorMNr
set_option linter.unusedVariables false
set_option linter.unusedSimpArgs false
namespace Go.Proofs.YtflckpfpgpfjlaaGreatDoor
open Go.RowKit Go.Sort
abbrev RdN (w : World) (v : Value) (ns : List (List Value)) : Prop := RdL 13 (fun n cs => n = cs) w AnyB v ns
theorem RdN.ext {w w' : World} {v : Value} {ns : List (List Value)} (h : RdN w v ns) (hb : Below w.heap.size w w') : RdN w' v ns := RdL.move h (fun _ _ e => e) (Stays.below hb _)
theorem RdN.node {w : World} {v : Value} {ns : List (List Value)} (h : RdN w v ns) {j : Nat} {cs : List Value} (hj : ns[j]? = some cs) : ∃ b o c, v = .slice (some ⟨b, o, none⟩) ns.length c ∧ b < w.heap.size ∧ NdC w b (o + j * 13) cs := by
  obtain ⟨b, o, c, hv, hb, cs', _, rfl, _, hc⟩ := h.at hj
  exact ⟨b, o, c, hv, hb, hc⟩
def W6Post (cols others : List Int) (a b : Int) (w : World) (e : Ending) (w' : World) : Prop := Below w.heap.size w w' ∧ if joinOk cols others a b = true then ∃ A c, e = .returned (.slice A 3 c) ∧ RdI w' AnyB (.slice A 3 c) [a, b, a + b] else e = .returned (.slice none 0 0)
theorem W6Post.no {cols others : List Int} {a b : Int} {w w' : World} (h : joinOk cols others a b = false) (hB : Below w.heap.size w w') : W6Post cols others a b w (.returned (.slice none 0 0)) w' := ⟨hB, by rw [if_neg (by rw [h]; simp)]⟩
set_option maxRecDepth 100000 in
set_option maxHeartbeats 4000000 in
theorem r6Widths_any (bp op cc : Nat) (a b k : Int) (name : ByteArray) (anti : Bool) (A1 A2 A3 A4 A5 A6 A7 : Option Addr) (c1 c2 l3 c3 l4 c4 l5 c5 l6 c6 l7 c7 : Nat) (cols others : List Int) (w : World)
    (h1 : RdI w AnyB (.slice A1 cols.length c1) cols) (h2 : RdI w AnyB (.slice A2 others.length c2) others) (ha : i64 a) (hb : i64 b)
    (hp : RdN w (.slice (some ⟨bp, op, none⟩) 3 cc) [inNode ⟨#[120]⟩ a, inNode ⟨#[120]⟩ b, [.int .i64 5, .int .i64 0, .int .i64 1, .int .i64 k, .string name, .bool anti, .slice A1 cols.length c1, .slice A2 others.length c2, .slice A3 l3 c3, .slice A4 l4 c4, .slice A5 l5 c5, .slice A6 l6 c6, .slice A7 l7 c7]]) :
    Calls Tryz.prog 146 #[.slice (some ⟨bp, op, none⟩) 3 cc, .int .i64 (-1), .int .i64 0] w (W6Post cols others a b w) := by
  have hnd : ∀ (j : Nat) (cs : List Value), [inNode ⟨#[120]⟩ a, inNode ⟨#[120]⟩ b, [.int .i64 5, .int .i64 0, .int .i64 1, .int .i64 k, .string name, .bool anti, .slice A1 cols.length c1, .slice A2 others.length c2, .slice A3 l3 c3, .slice A4 l4 c4, .slice A5 l5 c5, .slice A6 l6 c6, .slice A7 l7 c7]][j]? = some cs → bp < w.heap.size ∧ NdC w bp (op + j * 13) cs := fun j cs hj => by
    obtain ⟨b', o', c', hv, hb', hn⟩ := hp.node hj
    injection hv with hA _ _
    injection hA with hA
    injection hA with hA1 hA2 _
    subst hA1 hA2
    exact ⟨hb', hn⟩
  have HD0 := As.mk (hnd 0 _ rfl).2
  have HD1 := As.mk (hnd 1 _ rfl).2
  have HD2 := As.mk (hnd 2 _ rfl).2
  have hplt := (hnd 0 _ rfl).1
  have HR1 := As.mk h1
  have HR2 := As.mk h2
  clear h1 h2 hnd hp
  go_enter Tryz.func146, Tryz.ntmps146
  go_wp2_with fail
  go_loopg [6, 7, 8, 9, 10, 11, 12, 13] 3 (fun g _ s7 s8 _ _ _ _ _ wr => ∃ (kk : Nat) (outs : List Int), 3 - kk ≤ g ∧ s8 = .int .i64 kk ∧ As (OwnL 1 EI 3 wr w.heap.size s7 outs) ∧ As (Below w.heap.size w wr) ∧ WSt cols others a b kk outs)
  case atStart => exact ⟨0, [], by omega, by go_num, ⟨OwnL.made 1 EI 3 w w.heap.size _ 0 (Nat.le_refl _) (by decide) rfl⟩, ⟨(Below.refl _ _).alloc (Nat.le_refl _) _⟩, .inl ⟨rfl, rfl⟩⟩
  case round =>
    obtain ⟨kk, outs, hg, rfl, HO, HB, hst⟩ := hrel
    have HN : As (∀ k, wr.cell? ⟨bp, k, none⟩ = w.cell? ⟨bp, k, none⟩) := ⟨fun k => HB.out.cell (p := ⟨bp, k, none⟩) hplt⟩
    have hwz := HB.out.size
    rcases hst with ⟨rfl, rfl⟩ | ⟨rfl, rfl, ha0, ha1⟩ | ⟨rfl, rfl, ha0, ha1, hb0, hb1⟩ | ⟨rfl, rfl, hok⟩
    · have hD := HD0.out.mv HN.out
      have f0 := hD 0 _ rfl; have f1 := hD 1 _ rfl; have f2 := hD 2 _ rfl; have f3 := hD 3 _ rfl; have f4 := hD 4 _ rfl; have f5 := hD 5 _ rfl; have f6 := hD 6 _ rfl; have f7 := hD 7 _ rfl; have f8 := hD 8 _ rfl; have f9 := hD 9 _ rfl; have f10 := hD 10 _ rfl; have f11 := hD 11 _ rfl; have f12 := hD 12 _ rfl
      simp only [Nat.zero_add, Nat.add_zero, Nat.reduceAdd, Nat.zero_mul, Nat.one_mul, Nat.reduceMul] at f0 f1 f2 f3 f4 f5 f6 f7 f8 f9 f10 f11 f12
      clear hD
      have hx120 : ((((⟨#[120]⟩ : ByteArray)[0]'(by decide)).toNat : Nat) : Int) = 120 := rfl
      obtain ⟨W1, hW1⟩ : ∃ W1, W1 = wr.alloc (.cells #[.int .i64 1, .int .i64 0, .int .i64 0, .int .i64 a, .string ⟨#[120]⟩, .bool false, .slice none 0 0, .slice none 0 0, .slice none 0 0, .slice none 0 0, .slice none 0 0, .slice none 0 0, .slice none 0 0] 28) := ⟨_, rfl⟩
      have HNK := As.mk (node_keep 1 0 0 a ⟨#[120]⟩ false none none none none none none none 0 0 0 0 0 0 0 0 0 0 0 0 0 0 wr W1 28 hW1)
      have HEW : As (Ext wr W1) := ⟨hW1 ▸ Ext.alloc (Ext.refl _) _⟩
      go_wp2_with (first | (go_at_call 188; refine (r6One_any _ _).mono ?_; rintro e w' ⟨rfl, rfl⟩) | (go_at_call 189; refine (r6Two_any _ _).mono ?_; rintro e w' ⟨rfl, rfl⟩))
      rw [← hW1]
      clear hW1 f0 f1 f2 f3 f4 f5 f6 f7 f8 f9 f10 f11 f12
      refine (r6lists_in _ _ _ _ _ _ _ _ _ _ _ _ _ _ _ _ _ _ _ _ _ _ _ _ _ _ _ _ W1).mono ?_
      rintro e w1 ⟨rfl, hE1⟩
      have HE1 := As.mk hE1
      obtain ⟨n0, n1, n2, n3, n4, n5, n6, n7, n8, n9, n10, n11, n12⟩ := HNK.out _ HE1.out.below
      clear hE1
      go_wp2_with fail
      refine (r6wide_in _ _ _ _ _ _ _ _ _ _ _ _ _ _ _ _ _ _ _ _ _ _ _ _ _ _ _ _ w1).mono ?_
      rintro e w2 ⟨rfl, hE2⟩
      have HE2 := As.mk (HE1.out.trans hE2)
      clear n0 n1 n2 n3 n4 n5 n6 n7 n8 n9 n10 n11 n12
      obtain ⟨n0, n1, n2, n3, n4, n5, n6, n7, n8, n9, n10, n11, n12⟩ := HNK.out _ HE2.out.below
      have HEE := As.mk (HEW.out.trans HE2.out)
      have HO1 := As.mk (HO.out.ext HEE.out)
      have HB1 : As (Below w.heap.size w w2) := ⟨HB.out.trans (HEE.out.below.mono hwz)⟩
      have hbz := HB1.out.size
      have HLZ : As (([] : List Int).length < 4294967296) := ⟨by simp⟩
      clear hE2
      by_cases hr : 0 ≤ a ∧ a ≤ 1024
      · obtain ⟨hr0, hr1⟩ := hr
        have hr0b : decide (a < 0) = false := decide_eq_false (by omega)
        have hr1b : decide (1024 < a) = false := decide_eq_false (by omega)
        go_wp2_with (at_builtin; go_loud (refine OwnL.append (W := w2) w.heap.size rfl (.tmp 166) (.tmp 168) 22 3 _ 1 8 rfl Tryz.underlying22 info_int rfl (by decide) (by decide) u7 [] a [.int .i64 (a)] rfl rfl (E := EI) ⟨rfl, ha⟩ rfl (by simp [Value.oneCell']) HO1.out HB1.out hbz HLZ.out rfl ?_); intro v3 w3 hown hb' hg' hat; have HO2 := As.mk hown; have HB2 := As.mk hb'; clear hown hb' hg' hat)
        go_roundg 2
        case measure => omega
        case rel => exact ⟨1, _, by omega, by go_num, HO2, HB2, .inr (.inl ⟨rfl, rfl, hr0, hr1⟩)⟩
      · have HF2 : As (joinOk cols others a b = false) := ⟨joinOk_a hr⟩
        by_cases hr0 : a < 0
        · have hr0b : decide (a < 0) = true := decide_eq_true hr0
          go_wp2_with fail
          go_ret
          exact W6Post.no HF2.out HB1.out
        · have hr0b : decide (a < 0) = false := decide_eq_false hr0
          have hr1b : decide (1024 < a) = true := decide_eq_true (by omega)
          go_wp2_with fail
          go_ret
          exact W6Post.no HF2.out HB1.out
    · have hD := HD1.out.mv HN.out
      have f0 := hD 0 _ rfl; have f1 := hD 1 _ rfl; have f2 := hD 2 _ rfl; have f3 := hD 3 _ rfl; have f4 := hD 4 _ rfl; have f5 := hD 5 _ rfl; have f6 := hD 6 _ rfl; have f7 := hD 7 _ rfl; have f8 := hD 8 _ rfl; have f9 := hD 9 _ rfl; have f10 := hD 10 _ rfl; have f11 := hD 11 _ rfl; have f12 := hD 12 _ rfl
      simp only [Nat.zero_add, Nat.add_zero, Nat.reduceAdd, Nat.zero_mul, Nat.one_mul, Nat.reduceMul] at f0 f1 f2 f3 f4 f5 f6 f7 f8 f9 f10 f11 f12
      clear hD
      have hx120 : ((((⟨#[120]⟩ : ByteArray)[0]'(by decide)).toNat : Nat) : Int) = 120 := rfl
      obtain ⟨W1, hW1⟩ : ∃ W1, W1 = wr.alloc (.cells #[.int .i64 1, .int .i64 0, .int .i64 0, .int .i64 b, .string ⟨#[120]⟩, .bool false, .slice none 0 0, .slice none 0 0, .slice none 0 0, .slice none 0 0, .slice none 0 0, .slice none 0 0, .slice none 0 0] 28) := ⟨_, rfl⟩
      have HNK := As.mk (node_keep 1 0 0 b ⟨#[120]⟩ false none none none none none none none 0 0 0 0 0 0 0 0 0 0 0 0 0 0 wr W1 28 hW1)
      have HEW : As (Ext wr W1) := ⟨hW1 ▸ Ext.alloc (Ext.refl _) _⟩
      go_wp2_with (first | (go_at_call 188; refine (r6One_any _ _).mono ?_; rintro e w' ⟨rfl, rfl⟩) | (go_at_call 189; refine (r6Two_any _ _).mono ?_; rintro e w' ⟨rfl, rfl⟩))
      rw [← hW1]
      clear hW1 f0 f1 f2 f3 f4 f5 f6 f7 f8 f9 f10 f11 f12
      refine (r6lists_in _ _ _ _ _ _ _ _ _ _ _ _ _ _ _ _ _ _ _ _ _ _ _ _ _ _ _ _ W1).mono ?_
      rintro e w1 ⟨rfl, hE1⟩
      have HE1 := As.mk hE1
      obtain ⟨n0, n1, n2, n3, n4, n5, n6, n7, n8, n9, n10, n11, n12⟩ := HNK.out _ HE1.out.below
      clear hE1
      go_wp2_with fail
      refine (r6wide_in _ _ _ _ _ _ _ _ _ _ _ _ _ _ _ _ _ _ _ _ _ _ _ _ _ _ _ _ w1).mono ?_
      rintro e w2 ⟨rfl, hE2⟩
      have HE2 := As.mk (HE1.out.trans hE2)
      clear n0 n1 n2 n3 n4 n5 n6 n7 n8 n9 n10 n11 n12
      obtain ⟨n0, n1, n2, n3, n4, n5, n6, n7, n8, n9, n10, n11, n12⟩ := HNK.out _ HE2.out.below
      have HEE := As.mk (HEW.out.trans HE2.out)
      have HO1 := As.mk (HO.out.ext HEE.out)
      have HB1 : As (Below w.heap.size w w2) := ⟨HB.out.trans (HEE.out.below.mono hwz)⟩
      have hbz := HB1.out.size
      have HLZ : As (([a] : List Int).length < 4294967296) := ⟨by simp⟩
      clear hE2
      by_cases hr : 0 ≤ b ∧ b ≤ 1024
      · obtain ⟨hr0, hr1⟩ := hr
        have hr0b : decide (b < 0) = false := decide_eq_false (by omega)
        have hr1b : decide (1024 < b) = false := decide_eq_false (by omega)
        go_wp2_with (at_builtin; go_loud (refine OwnL.append (W := w2) w.heap.size rfl (.tmp 166) (.tmp 168) 22 3 _ 1 8 rfl Tryz.underlying22 info_int rfl (by decide) (by decide) u7 [a] b [.int .i64 (b)] rfl rfl (E := EI) ⟨rfl, hb⟩ rfl (by simp [Value.oneCell']) HO1.out HB1.out hbz HLZ.out rfl ?_); intro v3 w3 hown hb' hg' hat; have HO2 := As.mk hown; have HB2 := As.mk hb'; clear hown hb' hg' hat)
        go_roundg 1
        case measure => omega
        case rel => exact ⟨2, _, by omega, by go_num, HO2, HB2, .inr (.inr (.inl ⟨rfl, rfl, ha0, ha1, hr0, hr1⟩))⟩
      · have HF2 : As (joinOk cols others a b = false) := ⟨joinOk_b hr⟩
        by_cases hr0 : b < 0
        · have hr0b : decide (b < 0) = true := decide_eq_true hr0
          go_wp2_with fail
          go_ret
          exact W6Post.no HF2.out HB1.out
        · have hr0b : decide (b < 0) = false := decide_eq_false hr0
          have hr1b : decide (1024 < b) = true := decide_eq_true (by omega)
          go_wp2_with fail
          go_ret
          exact W6Post.no HF2.out HB1.out
    · have hD := HD2.out.mv HN.out
      have f0 := hD 0 _ rfl; have f1 := hD 1 _ rfl; have f2 := hD 2 _ rfl; have f3 := hD 3 _ rfl; have f4 := hD 4 _ rfl; have f5 := hD 5 _ rfl; have f6 := hD 6 _ rfl; have f7 := hD 7 _ rfl; have f8 := hD 8 _ rfl; have f9 := hD 9 _ rfl; have f10 := hD 10 _ rfl; have f11 := hD 11 _ rfl; have f12 := hD 12 _ rfl
      simp only [Nat.zero_add, Nat.add_zero, Nat.reduceAdd, Nat.zero_mul, Nat.one_mul, Nat.reduceMul] at f0 f1 f2 f3 f4 f5 f6 f7 f8 f9 f10 f11 f12
      clear hD
      have hrd : RdI wr AnyB u7 [a, b] := HO.out.rd fun _ _ => trivial
      obtain ⟨bo, oo, co, hv, hbo, _, g0⟩ := hrd.val (j := 0) (x := a) rfl
      obtain ⟨bo', oo', co', hv', _, _, g1⟩ := hrd.val (j := 1) (x := b) rfl
      subst hv
      injection hv' with h1 _ h3
      injection h1 with h1
      injection h1 with h1 h2 _
      subst h1 h2 h3
      simp only [Nat.add_zero] at g0 g1
      obtain ⟨W1, hW1⟩ : ∃ W1, W1 = wr.alloc (.cells #[.int .i64 5, .int .i64 0, .int .i64 1, .int .i64 k, .string name, .bool anti, .slice A1 cols.length c1, .slice A2 others.length c2, .slice A3 l3 c3, .slice A4 l4 c4, .slice A5 l5 c5, .slice A6 l6 c6, .slice A7 l7 c7] 28) := ⟨_, rfl⟩
      have HNK := As.mk (node_keep 5 0 1 k name anti A1 A2 A3 A4 A5 A6 A7 cols.length c1 others.length c2 l3 c3 l4 c4 l5 c5 l6 c6 l7 c7 wr W1 28 hW1)
      have HEW : As (Ext wr W1) := ⟨hW1 ▸ Ext.alloc (Ext.refl _) _⟩
      have HLJ := As.mk (r6lists_join a b 0 1 k name anti A1 A2 A3 A4 A5 A6 A7 c1 c2 l3 c3 l4 c4 l5 c5 l6 c6 l7 c7 cols others W1 ((HR1.out.ext HB.out).ext HEW.out.below) ((HR2.out.ext HB.out).ext HEW.out.below))
      clear hrd
      go_wp2_with (first | (go_at_call 188; refine (r6One_any _ _).mono ?_; rintro e w' ⟨rfl, rfl⟩) | (go_at_call 189; refine (r6Two_any _ _).mono ?_; rintro e w' ⟨rfl, rfl⟩))
      rw [← hW1]
      clear hW1 f0 f1 f2 f3 f4 f5 f6 f7 f8 f9 f10 f11 f12 g0 g1
      refine HLJ.out.mono ?_
      rintro e w1 ⟨rfl, hE1⟩
      have HE1 := As.mk hE1
      have HB0 := As.mk (HB.out.trans (((HEW.out.trans hE1).below).mono hwz))
      obtain ⟨n0, n1, n2, n3, n4, n5, n6, n7, n8, n9, n10, n11, n12⟩ := HNK.out _ HE1.out.below
      clear hE1
      cases hj : joinIn cols others a b with
      | false =>
        have HF2 : As (joinOk cols others a b = false) := ⟨joinOk_l hj⟩
        clear hj
        go_wp2_with fail
        go_ret
        exact W6Post.no HF2.out HB0.out
      | true =>
        have HJ := As.mk hj
        clear hj
        go_wp2_with fail
        refine (r6wide_join a b 0 1 k name anti A1 A2 A3 A4 A5 A6 A7 cols.length c1 others.length c2 l3 c3 l4 c4 l5 c5 l6 c6 l7 c7 w1 ⟨ha0, ha1⟩ ⟨hb0, hb1⟩).mono ?_
        rintro e w2 ⟨rfl, hE2⟩
        have HE2 := As.mk (HE1.out.trans hE2)
        clear n0 n1 n2 n3 n4 n5 n6 n7 n8 n9 n10 n11 n12
        obtain ⟨n0, n1, n2, n3, n4, n5, n6, n7, n8, n9, n10, n11, n12⟩ := HNK.out _ HE2.out.below
        have HEE := As.mk (HEW.out.trans HE2.out)
        have HO1 := As.mk (HO.out.ext HEE.out)
        have HB1 : As (Below w.heap.size w w2) := ⟨HB.out.trans (HEE.out.below.mono hwz)⟩
        have hbz := HB1.out.size
        have HLZ : As (([a, b] : List Int).length < 4294967296) := ⟨by simp⟩
        have HIS : As (i64 (a + b)) := ⟨by unfold i64; omega⟩
        clear hE2
        have hs0b : decide (a + b < 0) = false := decide_eq_false (by omega)
        by_cases hs1 : a + b ≤ 1024
        · have hs1b : decide (1024 < a + b) = false := decide_eq_false (by omega)
          have HJO : As (joinOk cols others a b = true) := ⟨by
            unfold joinOk
            rw [HJ.out, decide_eq_true ha0, decide_eq_true ha1, decide_eq_true hb0, decide_eq_true hb1, decide_eq_true hs1]; rfl⟩
          go_wp2_with (at_builtin; go_loud (refine OwnL.append (W := w2) w.heap.size rfl (.tmp 166) (.tmp 168) 22 3 _ 1 8 rfl Tryz.underlying22 info_int rfl (by decide) (by decide) (.slice (some ⟨bo, oo, none⟩) 2 co) [a, b] (a + b) [.int .i64 (a + b)] rfl rfl (E := EI) ⟨rfl, HIS.out⟩ rfl (by simp [Value.oneCell']) HO1.out HB1.out hbz HLZ.out rfl ?_); intro v3 w3 hown hb' hg' hat; have HO2 := As.mk hown; have HB2 := As.mk hb'; clear hown hb' hg' hat)
          go_roundg 0
          case measure => omega
          case rel => exact ⟨3, _, by omega, by go_num, HO2, HB2, .inr (.inr (.inr ⟨rfl, rfl, HJO.out⟩))⟩
        · have HF2 := As.mk (joinOk_s (cols := cols) (others := others) hs1)
          have hs1b : decide (1024 < a + b) = true := decide_eq_true (by omega)
          go_wp2_with fail
          go_ret
          exact W6Post.no HF2.out HB1.out
    · obtain ⟨A9, c9, rfl, _⟩ := HO.out.shape
      have HRF : As (RdI wr AnyB (.slice A9 3 c9) [a, b, a + b]) := ⟨HO.out.rd fun _ _ => trivial⟩
      go_wp2_with fail
      go_ret
      exact ⟨HB.out, by rw [if_pos hok]; exact ⟨A9, c9, rfl, HRF.out⟩⟩
end Go.Proofs.YtflckpfpgpfjlaaGreatDoor
