/- A spine in memory; the walk of itemOf. -/
import Derived.Test.YtmpndmjfdijamaaGreatDoorEnc
import Derived.Test.YtmpndmjfdijamaaGreatDoorPick
import Derived.Test.YtmpndmjfdijamaaGreatDoorSearch
import Derived.Test.YtmpndmjfdijamaaGreatDoorMerge
import Derived.Laws.ResultCell
set_option linter.unusedVariables false
set_option linter.unusedSimpArgs false
namespace Go.Proofs.YtmpndmjfdijamaaGreatDoor
open Go.RowKit Go.Sort
theorem encB_size (r : List GV) : (encB r).size ≤ 8391680 := by
  unfold encB
  by_cases h : rsound r = true
  · rw [if_pos h]
    obtain ⟨h1, h2⟩ := rsound_at h
    have := encR_len h2
    show (encR r).toArray.size ≤ _
    rw [List.size_toArray]
    omega
  · rw [if_neg h]; decide
/-- spine.Spine -/
structure GS where
  cols : List Int
  bs : List (List GI)
  live : Int
/-- A batch's cell. -/
def EBt (w : World) (ok : Blk) (z : List GI) (cs : List Value) : Prop := ∃ v, cs = [v] ∧ RdT w ok v z
theorem EBt.mv {w w' : World} {ok ok' : Blk} {z : List GI} {cs : List Value} (h : EBt w ok z cs) (hs : Stays w w' ok ok') : EBt w' ok' z cs :=
  let ⟨v, hc, hr⟩ := h; ⟨v, hc, hr.mv hs⟩
/-- The spine S in block b; what it holds lies from base on. -/
def SpAt (base b : Nat) (w : World) (S : GS) : Prop :=
  ∃ u bv, w.heap[b]? = some (.cells #[u, bv, .int .i64 S.live] 69 (0, 0)) ∧ RdI w (Fresh 0 [3]) u S.cols ∧
    OwnL 1 (EBt w (Fresh base [72, 55])) 70 w base bv S.bs
theorem NewAt.sp {base b : Nat} {w : World} {r : List Int} (h : NewAt base w b r) : SpAt base b w ⟨r, [], 0⟩ :=
  let ⟨_, u, h1, h2⟩ := h; ⟨u, _, h1, h2.mv (Stays.mono fun _ _ h => ⟨Nat.zero_le _, h.2⟩), OwnL.nil _ _ _ _ _⟩
theorem SpAt.ext {base b : Nat} {w w' : World} {S : GS} (h : SpAt base b w S) (hb : Below w.heap.size w w') : SpAt base b w' S :=
  let ⟨u, bv, h1, h2, h3⟩ := h
  ⟨u, bv, (hb.block b (Array.getElem?_eq_some_iff.1 h1).1).trans h1, h2.ext hb, (h3.imp fun _ _ e => e.mv (Stays.below hb _)).below hb⟩
theorem SpAt.lt {base b : Nat} {w : World} {S : GS} (h : SpAt base b w S) : b < w.heap.size :=
  let ⟨_, _, h1, _⟩ := h; (Array.getElem?_eq_some_iff.1 h1).1
/-- What a change of the spine in block b leaves: every other block below base, and above it all but rows of batches. -/
structure Mut (base b : Nat) (w w' : World) : Prop where
  os : w'.os = w.os
  tape : w'.tape = w.tape
  output : w'.output = w.output
  size : w.heap.size ≤ w'.heap.size
  block : ∀ k o, w.heap[k]? = some o → k ≠ b → (k < base ∨ ∀ c fz, o ≠ .cells c 70 fz) → w'.heap[k]? = some o
theorem cells4 {w : World} {k : Nat} {a b c d : Value} {T : TypeId} (h : w.heap[k]? = some (.cells #[a, b, c, d] T (0, 0))) :
    w.cell? ⟨k, 0, none⟩ = some a ∧ w.cell? ⟨k, 1, none⟩ = some b ∧ w.cell? ⟨k, 2, none⟩ = some c ∧ w.cell? ⟨k, 3, none⟩ = some d ∧
      w.frozen? ⟨k, 0, none⟩ = false ∧ w.frozen? ⟨k, 1, none⟩ = false ∧ w.frozen? ⟨k, 2, none⟩ = false ∧ w.frozen? ⟨k, 3, none⟩ = false := by
  refine ⟨?_, ?_, ?_, ?_, Lib.frozen_of_heap h 0, Lib.frozen_of_heap h 1, Lib.frozen_of_heap h 2, Lib.frozen_of_heap h 3⟩ <;> rw [Lib.cell_of_heap h] <;> rfl
def ItemPost (w : World) (cols : List Int) (r : List GV) (e : Ending) (w' : World) : Prop :=
  Below w.heap.size w w' ∧ match pick r cols with
  | none => e = .returned (.tuple #[.agg #[.string ⟨#[]⟩, .string ⟨#[]⟩, .slice none 0 0, .int .i64 0], .bool false])
  | some key => ∃ A d, e = .returned (.tuple #[.agg #[.string (encB key), .string (encB r), .slice A r.length d, .int .i64 0], .bool true]) ∧ RdV w' (Fresh w.heap.size [55]) (.slice A r.length d) r
theorem set4_heap {w : World} {k : Nat} {a b c d a' b' c' d' : Value} {T : TypeId} (h : w.heap[k]? = some (.cells #[a, b, c, d] T (0, 0))) :
    ((((w.setCell ⟨k, 0, none⟩ a').setCell ⟨k, 1, none⟩ b').setCell ⟨k, 2, none⟩ c').setCell ⟨k, 3, none⟩ d').heap[k]? = some (.cells #[a', b', c', d'] T (0, 0)) := by
  have h1 := heap_setCell_same w k 0 _ T a' h
  have h2 := heap_setCell_same _ k 1 _ T b' h1
  have h3 := heap_setCell_same _ k 2 _ T c' h2
  have h4 := heap_setCell_same _ k 3 _ T d' h3
  simpa using h4
theorem set4_below {B : Nat} {w w' : World} {k : Nat} {a' b' c' d' : Value} (h : Below B w w') (hB : B ≤ k) : Below B w ((((w'.setCell ⟨k, 0, none⟩ a').setCell ⟨k, 1, none⟩ b').setCell ⟨k, 2, none⟩ c').setCell ⟨k, 3, none⟩ d') :=
  (((h.setCell (p := ⟨k, 0, none⟩) hB _).setCell (p := ⟨k, 1, none⟩) hB _).setCell (p := ⟨k, 2, none⟩) hB _).setCell (p := ⟨k, 3, none⟩) hB _
theorem Stays.set4 {w : World} {k : Nat} {cs : Array Value} {a' b' c' d' : Value} {T : TypeId} {fr : Nat × Nat} {ok : Blk} (h : w.heap[k]? = some (.cells cs T fr)) (hT : ¬ ok k T) :
    Stays w ((((w.setCell ⟨k, 0, none⟩ a').setCell ⟨k, 1, none⟩ b').setCell ⟨k, 2, none⟩ c').setCell ⟨k, 3, none⟩ d') ok ok := by
  intro k' t cells f ho hh
  have hne : k' ≠ k := by
    rintro rfl
    rw [h] at hh
    injection hh with hh
    injection hh with _ h2 _
    exact hT (h2 ▸ ho.1)
  refine ⟨ho, ?_⟩
  rw [Below.heap_setCell _ _ _ _ hne, Below.heap_setCell _ _ _ _ hne, Below.heap_setCell _ _ _ _ hne, Below.heap_setCell _ _ _ _ hne]
  exact hh
theorem results_item {fn : Func} {p u : Tmp} (h : fn.results = #[.cell p 72, .tmp u]) (tmps : Array Value) (w : World) (k : Nat) (a b c d v : Value) (T : TypeId) (fr : Nat × Nat) (hp : tmps.getD p undef = .pointer (some ⟨k, 0, none⟩)) (hu : tmps.getD u undef = v)
    (hk : w.heap[k]? = some (.cells #[a, b, c, d] T fr)) : (results fn tmps).run Tryz.prog w = .ok (.tuple #[.agg #[a, b, c, d], v]) w := by
  rw [results_cell_tmp h, hp, hu]
  simp only [asAddr, Sem.run_pure, Result.andThen_ok]
  rw [run_loadVar_row w k T 72 _ fr _ hk Tryz.underlying72 rfl (by kernel_rfl)]
  rfl
theorem itemOf_any (b : Nat) (u bv v : Value) (live : Int) (cols : List Int) (r : List GV) (w : World) (hw : GW w) (hb : w.heap[b]? = some (.cells #[u, bv, .int .i64 live] 69 (0, 0)))
    (hc : RdI w AnyB u cols) (hr : RdV w AnyB v r) : Calls Tryz.prog 33 #[.pointer (some ⟨b, 0, none⟩), v] w (ItemPost w cols r) := by
  have h1 := fun W (hE : Below w.heap.size w W) => pick_any v u r cols W (hr.ext hE) (hc.ext hE)
  have h2 := fun W (hE : Below w.heap.size w W) => encode_any r v W (hr.ext hE) (hw.below hE)
  have h3 := fun W (hE : Below w.heap.size w W) => cloneRow_any v r W (hr.ext hE)
  have h4 := fun W v q (hE : Below w.heap.size w W) (hq : RdV W AnyB v q) => encode_any q v W hq (hw.below hE)
  obtain ⟨A, c, rfl, _⟩ := hr.shape
  obtain ⟨B, d, rfl, _⟩ := hc.shape
  have c0 : w.cell? ⟨b, 0, none⟩ = some (.slice B cols.length d) := by rw [Lib.cell_of_heap hb]; rfl
  have hlt := World.block_lt_of_cell? w _ c0
  have HB := As.mk hb
  clear hr hc hb
  unfold ItemPost
  unfold PickPost at h1
  cases hp : pick r cols with
  | none =>
    rw [hp] at h1
    clear hp h2 h3 h4
    simp only at h1
    go_enter Tryz.func33, Tryz.ntmps33
    have hB0 : Below w.heap.size w (w.alloc (.cells #[.string ⟨#[]⟩, .string ⟨#[]⟩, .slice none 0 0, .int .i64 0] 72)) := (Below.refl _ _).alloc (Nat.le_refl _) _
    go_wp2_with (go_at_call 57; refine (h1 _ hB0).mono ?_; rintro e w1 ⟨hB, rfl⟩; obtain ⟨r0, r1, r2, r3, z0, z1, z2, z3⟩ := cells4 ((hB.block w.heap.size (by simp)).trans (heap_alloc_new _ _)); have HB1 := As.mk hB; clear hB)
    (try simp only [Exit.inBlock, Exit.then]); refine bodyPost_ret (results_item rfl _ _ _ _ _ _ _ _ _ _ rfl rfl (set4_heap ((HB1.out.block w.heap.size (by simp)).trans (heap_alloc_new _ _)))) rfl ?_
    exact ⟨set4_below (hB0.trans (HB1.out.mono (by simp))) (Nat.le_refl _), rfl⟩
  | some key =>
    rw [hp] at h1
    clear hp
    simp only at h1
    have hk := encB_size key
    have hr' := encB_size r
    go_enter Tryz.func33, Tryz.ntmps33
    have hB0 : Below w.heap.size w (w.alloc (.cells #[.string ⟨#[]⟩, .string ⟨#[]⟩, .slice none 0 0, .int .i64 0] 72)) := (Below.refl _ _).alloc (Nat.le_refl _) _
    go_wp2_with (first | (go_at_call 57; refine (h1 _ hB0).mono ?_; rintro e w1 ⟨hB, vk, rfl, hvk⟩; obtain ⟨Ak, ck, rfl, _⟩ := hvk.shape; have HK := As.mk hvk; have HB1 := As.mk (hB.mono (show w.heap.size ≤ _ by simp)); have HX1 := As.mk ((hB.block w.heap.size (by simp)).trans (heap_alloc_new _ _)); clear hvk hB) | (go_at_call 44; refine (h4 _ _ key (hB0.trans HB1.out) (HK.out.mv (Stays.any _ _))).mono ?_; rintro e w2 ⟨rfl, hB⟩; have HB2 := As.mk (HB1.out.trans (hB.mono (hB0.trans HB1.out).size)); have HX2 := As.mk ((hB.block w.heap.size (Array.getElem?_eq_some_iff.1 HX1.out).1).trans HX1.out); clear hB HX1 HB1 HK) | (go_at_call 44; refine (h2 _ (hB0.trans HB2.out)).mono ?_; rintro e w3 ⟨rfl, hB⟩; have HB3 := As.mk (HB2.out.trans (hB.mono (hB0.trans HB2.out).size)); have HX3 := As.mk ((hB.block w.heap.size (Array.getElem?_eq_some_iff.1 HX2.out).1).trans HX2.out); clear hB HX2 HB2) | (go_at_call 55; refine (h3 _ (hB0.trans HB3.out)).mono ?_; rintro e w4 ⟨u4, rfl, hu4, hB⟩; obtain ⟨A4, c4, rfl, _⟩ := hu4.shape; have HU := As.mk hu4; have HB4 := As.mk (HB3.out.trans (hB.mono (hB0.trans HB3.out).size)); have HX4 := As.mk ((hB.block w.heap.size (Array.getElem?_eq_some_iff.1 HX3.out).1).trans HX3.out); have HS4 := As.mk (hB0.trans HB3.out).size; clear hu4 hB HX3 HB3; obtain ⟨r0, r1, r2, r3, z0, z1, z2, z3⟩ := cells4 HX4.out))
    (try simp only [Exit.inBlock, Exit.then]); refine bodyPost_ret (results_item rfl _ _ _ _ _ _ _ _ _ _ rfl rfl (set4_heap HX4.out)) rfl ?_
    refine ⟨set4_below (hB0.trans HB4.out) (Nat.le_refl _), _, _, rfl, ?_⟩
    exact HU.out.mv ((Stays.mono fun k t h => ⟨Nat.le_trans HS4.out h.1, h.2⟩).trans (Stays.set4 HX4.out (fun h => by have := h.2; simp at this)))
end Go.Proofs.YtmpndmjfdijamaaGreatDoor
