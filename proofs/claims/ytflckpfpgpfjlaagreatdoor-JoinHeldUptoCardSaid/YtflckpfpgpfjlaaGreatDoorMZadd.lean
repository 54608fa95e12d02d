/- The walks of slices.Grow of nil and slices.Concat of two multisets. The walks of zset.Add and zset.Neg. -/
import Derived.Test.YtflckpfpgpfjlaaGreatDoorMMkLaw
import Derived.Test.YtflckpfpgpfjlaaGreatDoorMMake
set_option linter.unusedVariables false
set_option linter.unusedSimpArgs false
namespace Go.Proofs.YtflckpfpgpfjlaaGreatDoor
open Go.RowKit Go.Sort
theorem OwnL.emptyE {α β : Type} {sz : Nat} {E : α → List Value → Prop} {E' : β → List Value → Prop} {e : TypeId} {w : World} {base : Nat} {v : Value} (h : OwnL sz E e w base v []) : OwnL sz E' e w base v [] := by
  obtain ⟨cs, ho, hr, h1, hl⟩ := h
  exact ⟨cs, ho, ⟨hr.1, fun j x hj => by simp at hj⟩, h1, hl⟩
theorem grow_any (n : Nat) (w : World) (hn : n ≤ 4294967296) : Calls Tryz.prog 81 #[.slice none 0 0, .int .i64 n] w fun e w' => ∃ v, e = .returned v ∧ Below w.heap.size w w' ∧ ∀ (α : Type) (E : α → List Value → Prop), OwnL 2 E 66 w' w.heap.size v [] := by
  by_cases h0 : n = 0
  · subst h0
    go_enter Tryz.func81, Tryz.ntmps81
    go_wp2_with fail
    go_ret
    exact ⟨_, rfl, Below.refl _ _, fun α E => OwnL.nil _ _ _ _ _⟩
  · have hnz : (0 : Int) < (n : Int) := by omega
    have h1 : ¬ (n : Int) < 0 := by omega
    have hnp : 0 < n := by omega
    have hby : Tryz.t66.bytes = 32 := by kernel_rfl
    have hnc : Builtin.nextslicecap n 0 = n := by unfold Builtin.nextslicecap; simp; omega
    have hb1 : ¬ 281474976710656 < n * 32 := by omega
    have hb2 : (n : Int) * 32 ≤ 281474976710656 := by omega
    have hn2 : ¬ n * 2 = 0 := by omega
    have hn3 : (n : Int) ≤ 9223372036854775807 := by omega
    have HNN := As.mk hn
    go_enter Tryz.func81, Tryz.ntmps81
    go_wp2_with fail
    go_ret
    have hcap : n ≤ (Question.appendCap n 0 66).cut (w.tape w.drawn (Question.appendCap n 0 66)) ∧ (Question.appendCap n 0 66).cut (w.tape w.drawn (Question.appendCap n 0 66)) ≤ maxLen := by
      unfold Question.cut maxLen
      have h := Nat.mod_lt (w.tape w.drawn (Question.appendCap n 0 66)) (show 0 < 2 ^ 63 - n by have := HNN.out; omega)
      have := HNN.out
      simp only
      omega
    generalize (Question.appendCap n 0 66).cut (w.tape w.drawn (Question.appendCap n 0 66)) = cap at *
    refine ⟨_, rfl, ((Below.refl _ _).alloc (Nat.le_refl _) _).drew, fun α E => ?_⟩
    exact (OwnL.made 2 E 66 w w.heap.size _ cap (Nat.le_refl _) hcap.2 (by simp [size_zeroCells]; omega)).ext (Ext.drew (Ext.refl _))
theorem concat_any (kb : Nat) (A B : Option Addr) (c d : Nat) (a b : List GE) (w : World) (h0 : w.cell? ⟨kb, 0, none⟩ = some (.slice A a.length c)) (h1 : w.cell? ⟨kb, 1, none⟩ = some (.slice B b.length d)) (ha : RdZ w AnyB (.slice A a.length c) a) (hb : RdZ w AnyB (.slice B b.length d) b) (hl : a.length + b.length ≤ 4294967296) :
    Calls Tryz.prog 38 #[.slice (some ⟨kb, 0, none⟩) 2 2] w fun e w' => ∃ v, e = .returned v ∧ RdZ w' AnyB v (a ++ b) ∧ Below w.heap.size w w' := by
  have hx1 : IntKind.i64.wrap ((a.length : Int) + (b.length : Int)) = (a.length : Int) + (b.length : Int) := by rw [IntKind.wrap_i64]; omega
  have hx0 : IntKind.i64.wrap (a.length : Int) = (a.length : Int) := by rw [IntKind.wrap_i64]; omega
  have hlt := World.block_lt_of_cell? w _ h0
  have HA : As (RdL 2 (EE w (Old w.heap.size)) w AnyB (.slice A a.length c) a) := ⟨ha.move (fun _ _ e => e.mv (Stays.old w _)) (Stays.any _ _)⟩
  have HB : As (RdL 2 (EE w (Old w.heap.size)) w AnyB (.slice B b.length d) b) := ⟨hb.move (fun _ _ e => e.mv (Stays.old w _)) (Stays.any _ _)⟩
  have HG := As.mk (fun W => grow_any (a.length + b.length) W hl)
  have HL := As.mk hl
  have hn0 : ¬ (a.length : Int) < 0 := by omega
  have hn1 : ¬ (a.length : Int) + (b.length : Int) < 0 := by omega
  have hlt' : kb < w.heap.size := hlt
  clear ha hb hlt
  go_enter Tryz.func38, Tryz.ntmps38
  go_wp2_with fail
  go_loopg [3, 5, 11] 2 (fun g s3 _ s11 wr => w = wr ∧ ((s11 = .int .i64 0 ∧ s3 = .int .i64 0 ∧ 2 ≤ g) ∨ (s11 = .int .i64 1 ∧ s3 = .int .i64 a.length ∧ 1 ≤ g) ∨ (s11 = .int .i64 2 ∧ s3 = .int .i64 ((a.length : Int) + (b.length : Int)))))
  case atStart => exact ⟨rfl, .inl ⟨rfl, rfl, by omega⟩⟩
  case round =>
    obtain ⟨rfl, ⟨rfl, rfl, hg⟩ | ⟨rfl, rfl, hg⟩ | ⟨rfl, rfl⟩⟩ := hrel
    · go_wp2_with fail
      go_roundg 1
      case measure => omega
      case rel => exact ⟨rfl, .inr (.inl ⟨rfl, by first | rfl | simp, by omega⟩)⟩
    · go_wp2_with fail
      go_roundg 0
      case measure => omega
      case rel => exact ⟨rfl, .inr (.inr ⟨rfl, rfl⟩)⟩
    · go_wp2_with fail
      refine (HG.out _).mono ?_
      rintro e w1 ⟨v1, rfl, hB1, hown⟩
      have HO1 := As.mk (hown GE (EE w1 (Old w.heap.size)))
      have HB1 := As.mk hB1
      clear hown hB1
      obtain ⟨A1, c1, rfl, _⟩ := HO1.out.shape
      go_wp2_with fail
      go_loopg [6, 8, 27] 2 (fun g s6 _ s27 wr => As (Below w.heap.size w wr) ∧ ((s27 = .int .i64 0 ∧ As (OwnL 2 (EE wr (Old w.heap.size)) 66 wr w.heap.size s6 []) ∧ 2 ≤ g) ∨ (s27 = .int .i64 1 ∧ As (OwnL 2 (EE wr (Old w.heap.size)) 66 wr w.heap.size s6 a) ∧ 1 ≤ g) ∨ (s27 = .int .i64 2 ∧ As (OwnL 2 (EE wr (Old w.heap.size)) 66 wr w.heap.size s6 (a ++ b)))))
      case atStart => exact ⟨HB1, .inl ⟨rfl, HO1, by omega⟩⟩
      case round =>
        obtain ⟨HBW, ⟨rfl, HO, hg⟩ | ⟨rfl, HO, hg⟩ | ⟨rfl, HO⟩⟩ := hrel
        · have c0 := (HBW.out.cell (p := ⟨kb, 0, none⟩) hlt').trans h0
          have HR : As (RdL 2 (EE wr (Old w.heap.size)) wr AnyB (.slice A a.length c) a) := ⟨HA.out.move (fun _ _ e => e.mv (Stays.below HBW.out _)) (Stays.below HBW.out _)⟩
          have hbz := HBW.out.size
          have HLL : As (([] : List GE).length + a.length ≤ 4294967296) := ⟨by have := HL.out; simp; omega⟩
          go_wp2_with (at_builtin; refine OwnL.appends w.heap.size rfl (.tmp 31) (.tmp 32) 35 66 _ 2 32 rfl Tryz.underlying35 info_entry rfl (by decide) (by decide) _ [] a _ _ _ rfl rfl HR.out HO.out HBW.out hbz HLL.out ?_; intro v2 w2 hown hb2 hg2 hat; have HO2 := As.mk (hown.imp fun _ _ h => EE.mv h (Stays.grown hg2 (Old w.heap.size) fun g t cells fr hgb hh ho => by have h1 := (HO.out.lt g hgb).1; have h2 : g < w.heap.size := ho; omega)); have HB2 := As.mk hb2; clear hown hb2 hg2 hat)
          go_roundg 1
          case measure => omega
          case rel => exact ⟨HB2, .inr (.inl ⟨rfl, HO2, by omega⟩)⟩
        · have c0 := (HBW.out.cell (p := ⟨kb, 1, none⟩) hlt').trans h1
          have HR : As (RdL 2 (EE wr (Old w.heap.size)) wr AnyB (.slice B b.length d) b) := ⟨HB.out.move (fun _ _ e => e.mv (Stays.below HBW.out _)) (Stays.below HBW.out _)⟩
          have hbz := HBW.out.size
          go_wp2_with (at_builtin; refine OwnL.appends w.heap.size rfl (.tmp 31) (.tmp 32) 35 66 _ 2 32 rfl Tryz.underlying35 info_entry rfl (by decide) (by decide) _ a b _ _ _ rfl rfl HR.out HO.out HBW.out hbz HL.out ?_; intro v2 w2 hown hb2 hg2 hat; have HO2 := As.mk (hown.imp fun _ _ h => EE.mv h (Stays.grown hg2 (Old w.heap.size) fun g t cells fr hgb hh ho => by have h1 := (HO.out.lt g hgb).1; have h2 : g < w.heap.size := ho; omega)); have HB2 := As.mk hb2; clear hown hb2 hg2 hat)
          go_roundg 0
          case measure => omega
          case rel => exact ⟨HB2, .inr (.inr ⟨rfl, HO2⟩)⟩
        · go_wp2_with fail
          go_ret
          exact ⟨_, rfl, RdL.move (HO.out.rd (ok := AnyB) fun _ _ => trivial) (fun _ _ e => e.mv (Stays.any _ _)) (Stays.any _ _), HBW.out⟩
set_option maxHeartbeats 2000000 in
set_option maxRecDepth 100000 in
theorem add_any (u v : Value) (a b : List GE) (w : World) (ha : RdZ w AnyB u a) (hb : RdZ w AnyB v b) (hl : a.length + b.length ≤ 4294967296) : Calls Tryz.prog 14 #[u, v] w (AddPost a b w) := by
  have h1 := zSound_any u a w ha
  have h2 := fun W (hE : Below w.heap.size w W) => zSound_any v b W (hb.ext hE)
  obtain ⟨A, c, rfl, _⟩ := ha.shape
  obtain ⟨B, d, rfl, _⟩ := hb.shape
  have HA := As.mk ha
  have HB := As.mk hb
  have HL := As.mk hl
  clear ha hb hl
  cases hsa : zsound a with
  | false =>
    rw [hsa] at h1
    have HS := As.mk hsa
    clear hsa h2
    go_enter Tryz.func14, Tryz.ntmps14
    go_wp2_with (go_at_call 37; refine h1.mono ?_; rintro e w1 ⟨rfl, hE⟩)
    go_ret2
    exact AddPost.bad hE.below (.inl HS.out)
  | true =>
    rw [hsa] at h1
    have HS := As.mk hsa
    clear hsa
    cases hsb : zsound b with
    | false =>
      have HS2 := As.mk hsb
      go_enter Tryz.func14, Tryz.ntmps14
      go_wp2_with fail
      refine h1.mono ?_
      rintro e w1 ⟨rfl, hE⟩
      have h2 := h2 w1 hE.below
      rw [hsb] at h2
      clear hsb
      go_wp2_with fail
      refine h2.mono ?_
      rintro e w2 ⟨rfl, hE2⟩
      go_wp2_with fail
      go_ret2
      exact AddPost.bad (hE.below.trans (hE2.below.mono hE.size)) (.inr HS2.out)
    | true =>
      have HS2 := As.mk hsb
      go_enter Tryz.func14, Tryz.ntmps14
      go_wp2_with fail
      refine h1.mono ?_
      rintro e w1 ⟨rfl, hE⟩
      have h2 := h2 w1 hE.below
      rw [hsb] at h2
      clear hsb
      go_wp2_with fail
      refine h2.mono ?_
      rintro e w2 ⟨rfl, hE2⟩
      have HB2 := As.mk (hE.below.trans (hE2.below.mono hE.size))
      have HB3 := As.mk (HB2.out.alloc HB2.out.size (.cells #[.slice A a.length c, .slice B b.length d] 35))
      have hc := concat_any w2.heap.size A B c d a b (w2.alloc (.cells #[.slice A a.length c, .slice B b.length d] 35)) (by rw [Lib.cell_of_heap (heap_alloc_new w2 _)]; rfl) (by rw [Lib.cell_of_heap (heap_alloc_new w2 _)]; rfl) (HA.out.ext HB3.out) (HB.out.ext HB3.out) HL.out
      obtain ⟨l, hlab⟩ : ∃ l, l = a ++ b := ⟨_, rfl⟩
      rw [← hlab] at hc
      have HLAB := As.mk hlab
      clear h1 h2 hE hE2 hlab
      go_wp2_with fail
      refine hc.mono ?_
      rintro e w4 ⟨v4, rfl, hr4, hB4⟩
      have HB4 := As.mk (HB3.out.trans (hB4.mono HB3.out.size))
      have hm := make_any v4 l w4 hr4
      obtain ⟨A4, c4, rfl, _⟩ := hr4.shape
      clear hc hr4 hB4
      go_wp2_with fail
      refine hm.mono ?_
      rintro e w5 hpost
      have HP := As.mk hpost
      obtain ⟨A5, n5, c5, k5, rfl⟩ := hpost.shape
      clear hpost hm
      go_wp2_with fail
      go_ret2
      have hp := HP.out
      rw [HLAB.out] at hp
      exact AddPost.of HB4.out HS.out HS2.out hp
/-- The negative. -/
def GE.neg (x : GE) : GE := ⟨x.row, -x.w⟩
def NegPost (a : List GE) (w : World) (e : Ending) (w' : World) : Prop := Below w.heap.size w w' ∧
  if zsound a = false then e = .returned (.tuple #[.slice none 0 0, .int .i64 1])
  else ∃ v, e = .returned (.tuple #[v, .int .i64 0]) ∧ RdZ2 w' w.heap.size v (a.map GE.neg)
theorem NegPost.bad {a : List GE} {w w' : World} (hB : Below w.heap.size w w') (h : zsound a = false) : NegPost a w (.returned (.tuple #[.slice none 0 0, .int .i64 1])) w' := ⟨hB, by rw [if_pos h]⟩
theorem NegPost.good {a : List GE} {w w' : World} (hB : Below w.heap.size w w') (h : zsound a = true) {v : Value} (hr : RdZ2 w' w.heap.size v (a.map GE.neg)) : NegPost a w (.returned (.tuple #[v, .int .i64 0])) w' := ⟨hB, by rw [if_neg (by rw [h]; simp)]; exact ⟨v, rfl, hr⟩⟩
end Go.Proofs.YtflckpfpgpfjlaaGreatDoor
