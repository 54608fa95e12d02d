/- The walks of slices.Grow of nil and slices.Concat of two multisets. The walks of zset.Add and zset.Neg. -/
import Derived.Test.YtmpndmjfdijamaaGreatDoorZm
import Derived.Test.YtmpndmjfdijamaaGreatDoorMake
set_option linter.unusedVariables false
set_option linter.unusedSimpArgs false
namespace Go.Proofs.YtmpndmjfdijamaaGreatDoor
open Go.RowKit Go.Sort
theorem OwnL.emptyE {α β : Type} {sz : Nat} {E : α → List Value → Prop} {E' : β → List Value → Prop} {e : TypeId} {w : World} {base : Nat} {v : Value} (h : OwnL sz E e w base v []) : OwnL sz E' e w base v [] := by
  obtain ⟨cs, ho, hr, h1, hl⟩ := h
  exact ⟨cs, ho, ⟨hr.1, fun j x hj => by simp at hj⟩, h1, hl⟩
theorem grow_any (n : Nat) (w : World) (hn : n ≤ 4294967296) : Calls Tryz.prog 86 #[.slice none 0 0, .int .i64 n] w fun e w' => ∃ v, e = .returned v ∧ Below w.heap.size w w' ∧ ∀ (α : Type) (E : α → List Value → Prop), OwnL 2 E 47 w' w.heap.size v [] := by
  by_cases h0 : n = 0
  · subst h0
    go_enter Tryz.func86, Tryz.ntmps86
    go_wp2_with fail
    go_ret
    exact ⟨_, rfl, Below.refl _ _, fun α E => OwnL.nil _ _ _ _ _⟩
  · have hnz : (0 : Int) < (n : Int) := by omega
    have h1 : ¬ (n : Int) < 0 := by omega
    have hnp : 0 < n := by omega
    have hby : Tryz.t47.bytes = 32 := by kernel_rfl
    have hnc : Builtin.nextslicecap n 0 = n := by unfold Builtin.nextslicecap; simp; omega
    have hb1 : ¬ 281474976710656 < n * 32 := by omega
    have hb2 : (n : Int) * 32 ≤ 281474976710656 := by omega
    have hn2 : ¬ n * 2 = 0 := by omega
    have hn3 : (n : Int) ≤ 9223372036854775807 := by omega
    have HNN := As.mk hn
    go_enter Tryz.func86, Tryz.ntmps86
    go_wp2_with fail
    go_ret
    have hcap : n ≤ (Question.appendCap n 0 47).cut (w.tape w.drawn (Question.appendCap n 0 47)) ∧ (Question.appendCap n 0 47).cut (w.tape w.drawn (Question.appendCap n 0 47)) ≤ maxLen := by
      unfold Question.cut maxLen
      have h := Nat.mod_lt (w.tape w.drawn (Question.appendCap n 0 47)) (show 0 < 2 ^ 63 - n by have := HNN.out; omega)
      have := HNN.out
      simp only
      omega
    generalize (Question.appendCap n 0 47).cut (w.tape w.drawn (Question.appendCap n 0 47)) = cap at *
    refine ⟨_, rfl, ((Below.refl _ _).alloc (Nat.le_refl _) _).drew, fun α E => ?_⟩
    exact (OwnL.made 2 E 47 w w.heap.size _ cap (Nat.le_refl _) hcap.2 (by simp [size_zeroCells]; omega)).ext (Ext.drew (Ext.refl _))
theorem concat_any (kb : Nat) (A B : Option Addr) (c d : Nat) (a b : List GE) (w : World) (h0 : w.cell? ⟨kb, 0, none⟩ = some (.slice A a.length c)) (h1 : w.cell? ⟨kb, 1, none⟩ = some (.slice B b.length d)) (ha : RdZ w AnyB (.slice A a.length c) a) (hb : RdZ w AnyB (.slice B b.length d) b) (hl : a.length + b.length ≤ 4294967296) :
    Calls Tryz.prog 54 #[.slice (some ⟨kb, 0, none⟩) 2 2] w fun e w' => ∃ v, e = .returned v ∧ RdZ w' AnyB v (a ++ b) ∧ Below w.heap.size w w' := by
  have hx1 : IntKind.i64.wrap ((a.length : Int) + (b.length : Int)) = (a.length : Int) + (b.length : Int) := by rw [IntKind.wrap_i64]; omega
  have hx0 : IntKind.i64.wrap (a.length : Int) = (a.length : Int) := by rw [IntKind.wrap_i64]; omega
  have hlt := World.block_lt_of_cell? w _ h0
  have HA : As (RdL 2 (EE w (Old w.heap.size)) w AnyB (.slice A a.length c) a) := ⟨ha.move (fun _ _ e => e.mv (Stays.old w _)) (Stays.any _ _)⟩
  have HB : As (RdL 2 (EE w (Old w.heap.size)) w AnyB (.slice B b.length d) b) := ⟨hb.move (fun _ _ e => e.mv (Stays.old w _)) (Stays.any _ _)⟩
  have HG := As.mk (fun W => grow_any (a.length + b.length) W hl)
  have HL := As.mk hl
  have hn0 : ¬ (a.length : Int) < 0 := by omega
  have hn1 : ¬ (a.length : Int) + (b.length : Int) < 0 := by omega
  have hlt' : kb < w.heap.size := hlt
  clear ha hb hlt
  go_enter Tryz.func54, Tryz.ntmps54
  go_wp2_with fail
  go_loopg [3, 5, 11] 2 (fun g s3 _ s11 wr => w = wr ∧ ((s11 = .int .i64 0 ∧ s3 = .int .i64 0 ∧ 2 ≤ g) ∨ (s11 = .int .i64 1 ∧ s3 = .int .i64 a.length ∧ 1 ≤ g) ∨ (s11 = .int .i64 2 ∧ s3 = .int .i64 ((a.length : Int) + (b.length : Int)))))
  case atStart => exact ⟨rfl, .inl ⟨rfl, rfl, by omega⟩⟩
  case round =>
    obtain ⟨rfl, ⟨rfl, rfl, hg⟩ | ⟨rfl, rfl, hg⟩ | ⟨rfl, rfl⟩⟩ := hrel
    · go_wp2_with fail
      go_roundg 1
      case measure => omega
      case rel => exact ⟨rfl, .inr (.inl ⟨rfl, by first | rfl | simp, by omega⟩)⟩
    · go_wp2_with fail
      go_roundg 0
      case measure => omega
      case rel => exact ⟨rfl, .inr (.inr ⟨rfl, rfl⟩)⟩
    · go_wp2_with fail
      refine (HG.out _).mono ?_
      rintro e w1 ⟨v1, rfl, hB1, hown⟩
      have HO1 := As.mk (hown GE (EE w1 (Old w.heap.size)))
      have HB1 := As.mk hB1
      clear hown hB1
      obtain ⟨A1, c1, rfl, _⟩ := HO1.out.shape
      go_wp2_with fail
      go_loopg [6, 8, 27] 2 (fun g s6 _ s27 wr => As (Below w.heap.size w wr) ∧ ((s27 = .int .i64 0 ∧ As (OwnL 2 (EE wr (Old w.heap.size)) 47 wr w.heap.size s6 []) ∧ 2 ≤ g) ∨ (s27 = .int .i64 1 ∧ As (OwnL 2 (EE wr (Old w.heap.size)) 47 wr w.heap.size s6 a) ∧ 1 ≤ g) ∨ (s27 = .int .i64 2 ∧ As (OwnL 2 (EE wr (Old w.heap.size)) 47 wr w.heap.size s6 (a ++ b)))))
      case atStart => exact ⟨HB1, .inl ⟨rfl, HO1, by omega⟩⟩
      case round =>
        obtain ⟨HBW, ⟨rfl, HO, hg⟩ | ⟨rfl, HO, hg⟩ | ⟨rfl, HO⟩⟩ := hrel
        · have c0 := (HBW.out.cell (p := ⟨kb, 0, none⟩) hlt').trans h0
          have HR : As (RdL 2 (EE wr (Old w.heap.size)) wr AnyB (.slice A a.length c) a) := ⟨HA.out.move (fun _ _ e => e.mv (Stays.below HBW.out _)) (Stays.below HBW.out _)⟩
          have hbz := HBW.out.size
          have HLL : As (([] : List GE).length + a.length ≤ 4294967296) := ⟨by have := HL.out; simp; omega⟩
          go_wp2_with (at_builtin; refine OwnL.appends w.heap.size rfl (.tmp 31) (.tmp 32) 35 47 _ 2 32 rfl Tryz.underlying35 info_entry rfl (by decide) (by decide) _ [] a _ _ _ rfl rfl HR.out HO.out HBW.out hbz HLL.out ?_; intro v2 w2 hown hb2 hg2 hat; have HO2 := As.mk (hown.imp fun _ _ h => EE.mv h (Stays.grown hg2 (Old w.heap.size) fun g t cells fr hgb hh ho => by have h1 := (HO.out.lt g hgb).1; have h2 : g < w.heap.size := ho; omega)); have HB2 := As.mk hb2; clear hown hb2 hg2 hat)
          go_roundg 1
          case measure => omega
          case rel => exact ⟨HB2, .inr (.inl ⟨rfl, HO2, by omega⟩)⟩
        · have c0 := (HBW.out.cell (p := ⟨kb, 1, none⟩) hlt').trans h1
          have HR : As (RdL 2 (EE wr (Old w.heap.size)) wr AnyB (.slice B b.length d) b) := ⟨HB.out.move (fun _ _ e => e.mv (Stays.below HBW.out _)) (Stays.below HBW.out _)⟩
          have hbz := HBW.out.size
          go_wp2_with (at_builtin; refine OwnL.appends w.heap.size rfl (.tmp 31) (.tmp 32) 35 47 _ 2 32 rfl Tryz.underlying35 info_entry rfl (by decide) (by decide) _ a b _ _ _ rfl rfl HR.out HO.out HBW.out hbz HL.out ?_; intro v2 w2 hown hb2 hg2 hat; have HO2 := As.mk (hown.imp fun _ _ h => EE.mv h (Stays.grown hg2 (Old w.heap.size) fun g t cells fr hgb hh ho => by have h1 := (HO.out.lt g hgb).1; have h2 : g < w.heap.size := ho; omega)); have HB2 := As.mk hb2; clear hown hb2 hg2 hat)
          go_roundg 0
          case measure => omega
          case rel => exact ⟨HB2, .inr (.inr ⟨rfl, HO2⟩)⟩
        · go_wp2_with fail
          go_ret
          exact ⟨_, rfl, RdL.move (HO.out.rd (ok := AnyB) fun _ _ => trivial) (fun _ _ e => e.mv (Stays.any _ _)) (Stays.any _ _), HBW.out⟩
theorem zsound_badE {z : List GE} (h : zsound z = true) : ∀ x ∈ z, badE x = false := fun x hx => by
  obtain ⟨_, h2, h3⟩ := (zsound_parts h).1 x hx
  unfold badE
  rw [h2, h3]; rfl
theorem add_badE {a b : List GE} (ha : zsound a = true) (hb : zsound b = true) : (a ++ b).any badE = false := by
  rw [List.any_eq_false]
  intro x hx
  rcases List.mem_append.1 hx with hx | hx
  · rw [zsound_badE ha x hx]; simp
  · rw [zsound_badE hb x hx]; simp
/-- What Add answers. -/
def AddPost (a b : List GE) (w : World) (e : Ending) (w' : World) : Prop := Below w.heap.size w w' ∧
  if zsound a = false ∨ zsound b = false then e = .returned (.tuple #[.slice none 0 0, .int .i64 1])
  else if overL (a ++ b) = true then e = .returned (.tuple #[.slice none 0 0, .int .i64 11])
  else ∃ v z, e = .returned (.tuple #[v, .int .i64 0]) ∧ Made (a ++ b) z ∧ RdZ2 w' w.heap.size v z ∧ z.length ≤ a.length + b.length
theorem AddPost.bad {a b : List GE} {w w' : World} (hB : Below w.heap.size w w') (h : zsound a = false ∨ zsound b = false) : AddPost a b w (.returned (.tuple #[.slice none 0 0, .int .i64 1])) w' := ⟨hB, by rw [if_pos h]⟩
theorem AddPost.of {a b : List GE} {w w4 w5 : World} {e : Ending} (hB4 : Below w.heap.size w w4) (hs : zsound a = true) (hs2 : zsound b = true) (h : MakePost (a ++ b) w4 e w5) : AddPost a b w e w5 := by
  obtain ⟨hB5, hp⟩ := h
  refine ⟨hB4.trans (hB5.mono hB4.size), ?_⟩
  rw [if_neg (by rw [hs, hs2]; simp)]
  rw [if_neg (by rw [add_badE hs hs2]; simp)] at hp
  split at hp
  · next ho => rw [if_pos ho]; exact hp
  · next ho =>
    rw [if_neg ho]
    obtain ⟨v, z, h1, h2, h3, h4⟩ := hp
    exact ⟨v, z, h1, h2, h3.low hB4.size, by rw [List.length_append] at h4; exact h4⟩
theorem MakePost.shape {l : List GE} {w w' : World} {e : Ending} (h : MakePost l w e w') : ∃ (A : Option Addr) (n c : Nat) (k : Int), e = .returned (.tuple #[.slice A n c, .int .i64 k]) := by
  obtain ⟨_, h⟩ := h
  split at h
  · exact ⟨_, _, _, _, h⟩
  · split at h
    · exact ⟨_, _, _, _, h⟩
    · obtain ⟨v, z, h, _, hr, _⟩ := h
      obtain ⟨A, c, rfl, _⟩ := hr.shape
      exact ⟨_, _, _, _, h⟩
set_option maxHeartbeats 2000000 in
set_option maxRecDepth 100000 in
theorem add_any (u v : Value) (a b : List GE) (w : World) (ha : RdZ w AnyB u a) (hb : RdZ w AnyB v b) (hl : a.length + b.length ≤ 4294967296) : Calls Tryz.prog 27 #[u, v] w (AddPost a b w) := by
  have h1 := zSound_any u a w ha
  have h2 := fun W (hE : Below w.heap.size w W) => zSound_any v b W (hb.ext hE)
  obtain ⟨A, c, rfl, _⟩ := ha.shape
  obtain ⟨B, d, rfl, _⟩ := hb.shape
  have HA := As.mk ha
  have HB := As.mk hb
  have HL := As.mk hl
  clear ha hb hl
  cases hsa : zsound a with
  | false =>
    rw [hsa] at h1
    have HS := As.mk hsa
    clear hsa h2
    go_enter Tryz.func27, Tryz.ntmps27
    go_wp2_with (go_at_call 25; refine h1.mono ?_; rintro e w1 ⟨rfl, hE⟩)
    go_ret2
    exact AddPost.bad hE.below (.inl HS.out)
  | true =>
    rw [hsa] at h1
    have HS := As.mk hsa
    clear hsa
    cases hsb : zsound b with
    | false =>
      have HS2 := As.mk hsb
      go_enter Tryz.func27, Tryz.ntmps27
      go_wp2_with fail
      refine h1.mono ?_
      rintro e w1 ⟨rfl, hE⟩
      have h2 := h2 w1 hE.below
      rw [hsb] at h2
      clear hsb
      go_wp2_with fail
      refine h2.mono ?_
      rintro e w2 ⟨rfl, hE2⟩
      go_wp2_with fail
      go_ret2
      exact AddPost.bad (hE.below.trans (hE2.below.mono hE.size)) (.inr HS2.out)
    | true =>
      have HS2 := As.mk hsb
      go_enter Tryz.func27, Tryz.ntmps27
      go_wp2_with fail
      refine h1.mono ?_
      rintro e w1 ⟨rfl, hE⟩
      have h2 := h2 w1 hE.below
      rw [hsb] at h2
      clear hsb
      go_wp2_with fail
      refine h2.mono ?_
      rintro e w2 ⟨rfl, hE2⟩
      have HB2 := As.mk (hE.below.trans (hE2.below.mono hE.size))
      have HB3 := As.mk (HB2.out.alloc HB2.out.size (.cells #[.slice A a.length c, .slice B b.length d] 35))
      have hc := concat_any w2.heap.size A B c d a b (w2.alloc (.cells #[.slice A a.length c, .slice B b.length d] 35)) (by rw [Lib.cell_of_heap (heap_alloc_new w2 _)]; rfl) (by rw [Lib.cell_of_heap (heap_alloc_new w2 _)]; rfl) (HA.out.ext HB3.out) (HB.out.ext HB3.out) HL.out
      obtain ⟨l, hlab⟩ : ∃ l, l = a ++ b := ⟨_, rfl⟩
      rw [← hlab] at hc
      have HLAB := As.mk hlab
      clear h1 h2 hE hE2 hlab
      go_wp2_with fail
      refine hc.mono ?_
      rintro e w4 ⟨v4, rfl, hr4, hB4⟩
      have HB4 := As.mk (HB3.out.trans (hB4.mono HB3.out.size))
      have hm := make_any v4 l w4 hr4
      obtain ⟨A4, c4, rfl, _⟩ := hr4.shape
      clear hc hr4 hB4
      go_wp2_with fail
      refine hm.mono ?_
      rintro e w5 hpost
      have HP := As.mk hpost
      obtain ⟨A5, n5, c5, k5, rfl⟩ := hpost.shape
      clear hpost hm
      go_wp2_with fail
      go_ret2
      have hp := HP.out
      rw [HLAB.out] at hp
      exact AddPost.of HB4.out HS.out HS2.out hp
/-- The negative. -/
def GE.neg (x : GE) : GE := ⟨x.row, -x.w⟩
def NegPost (a : List GE) (w : World) (e : Ending) (w' : World) : Prop := Below w.heap.size w w' ∧
  if zsound a = false then e = .returned (.tuple #[.slice none 0 0, .int .i64 1])
  else ∃ v, e = .returned (.tuple #[v, .int .i64 0]) ∧ RdZ2 w' w.heap.size v (a.map GE.neg)
theorem NegPost.bad {a : List GE} {w w' : World} (hB : Below w.heap.size w w') (h : zsound a = false) : NegPost a w (.returned (.tuple #[.slice none 0 0, .int .i64 1])) w' := ⟨hB, by rw [if_pos h]⟩
theorem NegPost.good {a : List GE} {w w' : World} (hB : Below w.heap.size w w') (h : zsound a = true) {v : Value} (hr : RdZ2 w' w.heap.size v (a.map GE.neg)) : NegPost a w (.returned (.tuple #[v, .int .i64 0])) w' := ⟨hB, by rw [if_neg (by rw [h]; simp)]; exact ⟨v, rfl, hr⟩⟩
set_option maxHeartbeats 4000000 in
set_option maxRecDepth 100000 in
theorem neg_any (u : Value) (a : List GE) (w : World) (ha : RdZ w AnyB u a) : Calls Tryz.prog 28 #[u] w (NegPost a w) := by
  have mixed := mixed
  have h1 := zSound_any u a w ha
  obtain ⟨A, c, rfl, _⟩ := ha.shape
  have hal := ha.len
  have HA := As.mk ha
  clear ha
  cases hsa : zsound a with
  | false =>
    rw [hsa] at h1
    have HS := As.mk hsa
    clear hsa
    go_enter Tryz.func28, Tryz.ntmps28
    go_wp2_with (go_at_call 25; refine h1.mono ?_; rintro e w1 ⟨rfl, hE⟩)
    go_ret2
    exact NegPost.bad hE.below HS.out
  | true =>
    rw [hsa] at h1
    have HS := As.mk hsa
    clear hsa
    go_enter Tryz.func28, Tryz.ntmps28
    go_wp2_with fail
    refine h1.mono ?_
    rintro e w1 ⟨rfl, hE1⟩
    have HB1 := As.mk hE1.below
    obtain ⟨i0, hi, hzz⟩ := Option.map_eq_some_iff.1 info_entry
    simp only [Prod.mk.injEq] at hzz
    obtain ⟨hz0, hz1, hz2⟩ := hzz
    have hmk := fun W => run_make (P := Tryz.prog) W 35 47 i0 _ Tryz.underlying35 hi hz0 .i64 .i64 0 (a.length : Int) (by omega) (by omega) (by rw [hz2]; omega) (by omega)
    rw [show ((a.length : Int)).toNat = a.length by omega] at hmk
    rw [hz1] at hmk
    have hsz := size_madeCells (Value.agg #[.slice none 0 0, .int .i64 0]).cells (a.length * 2)
    generalize madeCells (Value.agg #[.slice none 0 0, .int .i64 0]).cells (a.length * 2) = cur at hmk hsz
    have HSZ := As.mk hsz
    have hsz1 := HB1.out.size
    clear h1 hE1 hi hz0 hz1 hz2 hsz
    have HPT := As.mk (zsound_parts HS.out).1
    go_wp2_with fail
    go_loopg [4, 6, 15] a.length (fun g s4 _ s15 wr => ∃ (k : Nat), k ≤ a.length ∧ a.length - k ≤ g ∧ s15 = .int .i64 k ∧ As (OwnL 2 (EE wr (Fresh w.heap.size [55])) 47 wr w.heap.size s4 ((a.take k).map GE.neg)) ∧ As (Below w.heap.size w wr))
    case atStart => exact ⟨0, by omega, by omega, by go_num, ⟨OwnL.made 2 _ 47 w1 w.heap.size cur a.length hsz1 (by simp only [maxLen]; omega) HSZ.out⟩, ⟨HB1.out.alloc hsz1 _⟩⟩
    case round =>
      obtain ⟨k, hk, hg, rfl, HO, HB⟩ := hrel
      by_cases hlt : k < a.length
      · have hltz : (k : Int) < (a.length : Int) := by omega
        obtain ⟨x, hx⟩ : ∃ x, a[k]? = some x := ⟨_, List.getElem?_eq_getElem hlt⟩
        obtain ⟨b, o, c', A1, d1, hv, hb, hxs, hrw, e0, e1⟩ := RdZ.ent (HA.out.ext HB.out) hx
        injection hv with hA _ hcc
        subst hA
        have hfx := (HPT.out x (List.mem_of_getElem? hx)).2.1
        have HXI : As (i64 (-x.w)) := ⟨by unfold fair at hfx; simp only [Bool.and_eq_true, decide_eq_true_eq] at hfx; unfold i64; omega⟩
        have hng : IntKind.i64.wrap (-x.w) = -x.w := by have := HXI.out; unfold i64 at this; rw [IntKind.wrap_i64]; omega
        have HX := As.mk hx
        have HRW := As.mk hrw
        clear hx hrw hcc hfx
        have hstep : (a.take (k + 1)).map GE.neg = (a.take k).map GE.neg ++ [x.neg] := by rw [List.take_add_one, HX.out]; simp
        have HST := As.mk hstep
        clear hstep
        have hzl : ((a.take k).map GE.neg).length = k := by rw [List.length_map, List.length_take]; omega
        have HZL := As.mk hzl
        generalize (a.take k).map GE.neg = zs at *
        have HW0 : As (Below w.heap.size w (wr.alloc (.cells #[.slice A1 x.row.length d1, .int .i64 x.w] 47)).drew) := ⟨(HB.out.alloc HB.out.size _).drew⟩
        have HO0 : As (OwnL 2 (EE (wr.alloc (.cells #[.slice A1 x.row.length d1, .int .i64 x.w] 47)).drew (Fresh w.heap.size [55])) 47 (wr.alloc (.cells #[.slice A1 x.row.length d1, .int .i64 x.w] 47)).drew w.heap.size u4 zs) :=
          ⟨((HO.out.ext (Ext.drew (Ext.alloc (Ext.refl _) _))).imp fun _ _ h => EE.mv h (Stays.below (Ext.drew (Ext.alloc (Ext.refl _) _)).below _))⟩
        have HCL := As.mk (cloneRow_any (.slice A1 x.row.length d1) x.row (wr.alloc (.cells #[.slice A1 x.row.length d1, .int .i64 x.w] 47)).drew (HRW.out.ext (Ext.drew (Ext.alloc (Ext.refl _) _)).below))
        have HC0 : As ((wr.alloc (.cells #[.slice A1 x.row.length d1, .int .i64 x.w] 47)).heap[wr.heap.size]? = some (.cells #[.slice A1 x.row.length d1, .int .i64 x.w] 47 (0, 0))) := ⟨heap_alloc_new _ _⟩
        obtain ⟨xr, xw⟩ := x
        simp only [GE.neg] at *
        go_wp2_with fail
        clear e0 e1 hxs hb
        generalize hcb : wr.heap.size = cb at *
        generalize hW0 : wr.alloc (Obj.cells #[Value.slice A1 xr.length d1, Value.int IntKind.i64 xw] 47) = W0 at *
        obtain ⟨f0, f1, _⟩ := cells2 HC0.out
        have hcl0 : cb < W0.heap.size := (Array.getElem?_eq_some_iff.1 HC0.out).1
        have HLZ : As (zs.length < 4294967296) := ⟨by have := HZL.out; omega⟩
        clear hcb hW0
        go_region_law (first | (refine OwnL.append_step (W := w2) w.heap.size rfl (.tmp 19) (.tmp 27) 35 47 _ 2 32 rfl Tryz.underlying35 info_entry rfl (by decide) (by decide) u4 zs ⟨xr, -xw⟩ [.slice A2 xr.length d2, .int .i64 (-xw)] rfl rfl (E := EE w2 (Fresh w.heap.size [55])) ⟨_, rfl, HXI.out, HU2.out⟩ rfl (by simp [Value.oneCell']) HO2.out HB2.out hbz HLZ.out rfl ?_; intro v1 w3 hown hb' hg'; have HO3 := As.mk (hown.imp fun _ _ h => EE.mv h (HO2.out.rowStays hg' (ok := Fresh w.heap.size [55]) (fun k h => by have := h.2; simp at this))); have HB3 := As.mk hb'; clear hown hb' hg') | (go_simp; go_at_call 55; refine HCL.out.mono ?_; rintro e w2 ⟨u2, rfl, hu2, hB⟩; obtain ⟨A2, d2, rfl, _⟩ := hu2.shape; have hC2 := (hB.block cb hcl0).trans HC0.out; obtain ⟨p0, p1, _⟩ := cells2 hC2; have HU2 := As.mk (hu2.mv (Stays.mono (ok' := Fresh w.heap.size [55]) fun k t h => ⟨Nat.le_trans HW0.out.size h.1, h.2⟩)); have HO2 := As.mk ((HO0.out.below hB).imp fun _ _ h => EE.mv h (Stays.below hB _)); have HB2 := As.mk (HW0.out.trans (hB.mono HW0.out.size)); have hbz := HB2.out.size; clear hu2 hB hC2))
        all_goals (go_wp2; go_roundg (a.length - (k + 1)); (case measure => omega); (case rel => exact ⟨k + 1, by omega, by omega, by go_num, ⟨by rw [HST.out]; exact HO3.out⟩, HB3⟩))
      · have hltz : ¬ (k : Int) < (a.length : Int) := by omega
        obtain rfl : k = a.length := by omega
        rw [List.take_length] at HO
        have HZ2 : As (RdZ2 wr w.heap.size u4 (a.map GE.neg)) := ⟨HO.out.rd fun k hk => ⟨hk, by simp⟩⟩
        go_wp2_with fail
        go_ret2
        exact NegPost.good HB.out HS.out HZ2.out
end Go.Proofs.YtmpndmjfdijamaaGreatDoor
