/- A spine in memory; the walk of itemOf. The walks of a spine's readers: weight, Weight, Len, Batches, Held. The walks of a spine's join, Compact and settle. The walks of a spine's Compact and settle. -/
import Derived.Test.YtflckpfpgpfjlaaGreatDoorMEnc
import Derived.Test.YtflckpfpgpfjlaaGreatDoorMMerge
import Derived.Laws.ResultCell
import Derived.BigQuiet
set_option linter.unusedVariables false
set_option linter.unusedSimpArgs false
section
namespace Go.Proofs.YtflckpfpgpfjlaaGreatDoor
open Go.RowKit Go.Sort
theorem encB_size (r : List GV) : (encB r).size ≤ 8391680 := by
  unfold encB
  by_cases h : rsound r = true
  · rw [if_pos h]
    obtain ⟨h1, h2⟩ := rsound_at h
    have := encR_len h2
    show (encR r).toArray.size ≤ _
    rw [List.size_toArray]
    omega
  · rw [if_neg h]; decide
/-- spine.Spine -/
structure GS where
  cols : List Int
  bs : List (List GI)
  live : Int
/-- A batch's cell. -/
def EBt (w : World) (ok : Blk) (z : List GI) (cs : List Value) : Prop := ∃ v, cs = [v] ∧ RdT w ok v z
theorem EBt.mv {w w' : World} {ok ok' : Blk} {z : List GI} {cs : List Value} (h : EBt w ok z cs) (hs : Stays w w' ok ok') : EBt w' ok' z cs :=
  let ⟨v, hc, hr⟩ := h; ⟨v, hc, hr.mv hs⟩
/-- Where the row of a spine's batches, its items and their rows may lie. -/
abbrev RowB (base : Nat → Prop) : Blk := fun k t => base k ∧ t ∈ [122, 96]
theorem Stays.widen {w : World} {ok ok' : Blk} (h : ∀ k t, k < w.heap.size → ok k t → ok' k t) : Stays w w ok ok' := fun k t cells fr ho hh => ⟨ho.mono fun t ht => h k t (Array.getElem?_eq_some_iff.1 hh).1 ht, hh⟩
/-- The spine S in block b; base tells where what it holds may lie. -/
def SpAt (base : Nat → Prop) (b : Nat) (w : World) (S : GS) : Prop :=
  ∃ u bv, w.heap[b]? = some (.cells #[u, bv, .int .i64 S.live] 136 (0, 0)) ∧ RdI w (Fresh 0 [3]) u S.cols ∧
    OwnL 1 (EBt w (RowB base)) 133 w 0 bv S.bs ∧ ∀ g, bv.ownBlock = some g → base g
theorem NewAt.sp {n b : Nat} {w : World} {r : List Int} (h : NewAt n w b r) (base : Nat → Prop) : SpAt base b w ⟨r, [], 0⟩ :=
  let ⟨_, u, h1, h2⟩ := h; ⟨u, _, h1, h2.mv (Stays.mono fun _ _ h => ⟨Nat.zero_le _, h.2⟩), OwnL.nil _ _ _ _ _, fun g hg => by cases hg⟩
theorem SpAt.ext {base : Nat → Prop} {b : Nat} {w w' : World} {S : GS} (h : SpAt base b w S) (hb : Below w.heap.size w w') : SpAt base b w' S :=
  let ⟨u, bv, h1, h2, h3, h4⟩ := h
  ⟨u, bv, (hb.block b (Array.getElem?_eq_some_iff.1 h1).1).trans h1, h2.ext hb, (h3.imp fun _ _ e => e.mv (Stays.below hb _)).below hb, h4⟩
theorem SpAt.mono {base base' : Nat → Prop} {b : Nat} {w : World} {S : GS} (h : SpAt base b w S) (hp : ∀ k, k < w.heap.size → base k → base' k) : SpAt base' b w S :=
  let ⟨u, bv, h1, h2, h3, h4⟩ := h
  ⟨u, bv, h1, h2, h3.imp fun _ _ e => e.mv (Stays.widen fun k t hk ht => ⟨hp k hk ht.1, ht.2⟩), fun g hg => hp g (h3.lt g hg).2 (h4 g hg)⟩
theorem SpAt.lt {base : Nat → Prop} {b : Nat} {w : World} {S : GS} (h : SpAt base b w S) : b < w.heap.size :=
  let ⟨_, _, h1, _⟩ := h; (Array.getElem?_eq_some_iff.1 h1).1
/-- What a change of the spine in block b leaves: every other block but rows of batches in base. -/
structure Mut (base : Nat → Prop) (b : Nat) (w w' : World) : Prop where
  os : w'.os = w.os
  tape : w'.tape = w.tape
  output : w'.output = w.output
  size : w.heap.size ≤ w'.heap.size
  block : ∀ k o, w.heap[k]? = some o → k ≠ b → (¬ base k ∨ ∀ c fz, o ≠ .cells c 133 fz) → w'.heap[k]? = some o
theorem cells4 {w : World} {k : Nat} {a b c d : Value} {T : TypeId} (h : w.heap[k]? = some (.cells #[a, b, c, d] T (0, 0))) :
    w.cell? ⟨k, 0, none⟩ = some a ∧ w.cell? ⟨k, 1, none⟩ = some b ∧ w.cell? ⟨k, 2, none⟩ = some c ∧ w.cell? ⟨k, 3, none⟩ = some d ∧
      w.frozen? ⟨k, 0, none⟩ = false ∧ w.frozen? ⟨k, 1, none⟩ = false ∧ w.frozen? ⟨k, 2, none⟩ = false ∧ w.frozen? ⟨k, 3, none⟩ = false := by
  refine ⟨?_, ?_, ?_, ?_, Lib.frozen_of_heap h 0, Lib.frozen_of_heap h 1, Lib.frozen_of_heap h 2, Lib.frozen_of_heap h 3⟩ <;> rw [Lib.cell_of_heap h] <;> rfl
def ItemPost (w : World) (cols : List Int) (r : List GV) (e : Ending) (w' : World) : Prop :=
  Below w.heap.size w w' ∧ match pick r cols with
  | none => e = .returned (.tuple #[.agg #[.string ⟨#[]⟩, .string ⟨#[]⟩, .slice none 0 0, .int .i64 0], .bool false])
  | some key => ∃ A d, e = .returned (.tuple #[.agg #[.string (encB key), .string (encB r), .slice A r.length d, .int .i64 0], .bool true]) ∧ RdV w' (Fresh w.heap.size [96]) (.slice A r.length d) r
theorem set4_heap {w : World} {k : Nat} {a b c d a' b' c' d' : Value} {T : TypeId} (h : w.heap[k]? = some (.cells #[a, b, c, d] T (0, 0))) :
    ((((w.setCell ⟨k, 0, none⟩ a').setCell ⟨k, 1, none⟩ b').setCell ⟨k, 2, none⟩ c').setCell ⟨k, 3, none⟩ d').heap[k]? = some (.cells #[a', b', c', d'] T (0, 0)) := by
  have h1 := heap_setCell_same w k 0 _ T a' h
  have h2 := heap_setCell_same _ k 1 _ T b' h1
  have h3 := heap_setCell_same _ k 2 _ T c' h2
  have h4 := heap_setCell_same _ k 3 _ T d' h3
  simpa using h4
theorem set4_below {B : Nat} {w w' : World} {k : Nat} {a' b' c' d' : Value} (h : Below B w w') (hB : B ≤ k) : Below B w ((((w'.setCell ⟨k, 0, none⟩ a').setCell ⟨k, 1, none⟩ b').setCell ⟨k, 2, none⟩ c').setCell ⟨k, 3, none⟩ d') :=
  (((h.setCell (p := ⟨k, 0, none⟩) hB _).setCell (p := ⟨k, 1, none⟩) hB _).setCell (p := ⟨k, 2, none⟩) hB _).setCell (p := ⟨k, 3, none⟩) hB _
theorem Stays.set4 {w : World} {k : Nat} {cs : Array Value} {a' b' c' d' : Value} {T : TypeId} {fr : Nat × Nat} {ok : Blk} (h : w.heap[k]? = some (.cells cs T fr)) (hT : ¬ ok k T) :
    Stays w ((((w.setCell ⟨k, 0, none⟩ a').setCell ⟨k, 1, none⟩ b').setCell ⟨k, 2, none⟩ c').setCell ⟨k, 3, none⟩ d') ok ok := by
  intro k' t cells f ho hh
  have hne : k' ≠ k := by
    rintro rfl
    rw [h] at hh
    injection hh with hh
    injection hh with _ h2 _
    exact hT (h2 ▸ ho.1)
  refine ⟨ho, ?_⟩
  rw [Below.heap_setCell _ _ _ _ hne, Below.heap_setCell _ _ _ _ hne, Below.heap_setCell _ _ _ _ hne, Below.heap_setCell _ _ _ _ hne]
  exact hh
theorem results_item {fn : Func} {p u : Tmp} (h : fn.results = #[.cell p 122, .tmp u]) (tmps : Array Value) (w : World) (k : Nat) (a b c d v : Value) (T : TypeId) (fr : Nat × Nat) (hp : tmps.getD p undef = .pointer (some ⟨k, 0, none⟩)) (hu : tmps.getD u undef = v)
    (hk : w.heap[k]? = some (.cells #[a, b, c, d] T fr)) : (results fn tmps).run Tryz.prog w = .ok (.tuple #[.agg #[a, b, c, d], v]) w := by
  rw [results_cell_tmp h, hp, hu]
  simp only [asAddr, Sem.run_pure, Result.andThen_ok]
  rw [run_loadVar_row w k T 122 _ fr _ hk Tryz.underlying122 rfl (by kernel_rfl)]
  rfl
theorem itemOf_any (b : Nat) (u bv v : Value) (live : Int) (cols : List Int) (r : List GV) (w : World) (hw : GW w) (hb : w.heap[b]? = some (.cells #[u, bv, .int .i64 live] 136 (0, 0)))
    (hc : RdI w AnyB u cols) (hr : RdV w AnyB v r) : Calls Tryz.prog 63 #[.pointer (some ⟨b, 0, none⟩), v] w (ItemPost w cols r) := by
  have h1 := fun W (hE : Below w.heap.size w W) => pick_any v u r cols W (hr.ext hE) (hc.ext hE)
  have h2 := fun W (hE : Below w.heap.size w W) => encode_any r v W (hr.ext hE) (hw.below hE)
  have h3 := fun W (hE : Below w.heap.size w W) => cloneRow_any v r W (hr.ext hE)
  have h4 := fun W v q (hE : Below w.heap.size w W) (hq : RdV W AnyB v q) => encode_any q v W hq (hw.below hE)
  obtain ⟨A, c, rfl, _⟩ := hr.shape
  obtain ⟨B, d, rfl, _⟩ := hc.shape
  have c0 : w.cell? ⟨b, 0, none⟩ = some (.slice B cols.length d) := by rw [Lib.cell_of_heap hb]; rfl
  have hlt := World.block_lt_of_cell? w _ c0
  have HB := As.mk hb
  clear hr hc hb
  unfold ItemPost
  unfold PickPost at h1
  cases hp : pick r cols with
  | none =>
    rw [hp] at h1
    clear hp h2 h3 h4
    simp only at h1
    go_enter Tryz.func63, Tryz.ntmps63
    have hB0 : Below w.heap.size w (w.alloc (.cells #[.string ⟨#[]⟩, .string ⟨#[]⟩, .slice none 0 0, .int .i64 0] 122)) := (Below.refl _ _).alloc (Nat.le_refl _) _
    go_wp2_with (go_at_call 66; refine (h1 _ hB0).mono ?_; rintro e w1 ⟨hB, rfl⟩; obtain ⟨r0, r1, r2, r3, z0, z1, z2, z3⟩ := cells4 ((hB.block w.heap.size (by simp)).trans (heap_alloc_new _ _)); have HB1 := As.mk hB; clear hB)
    (try simp only [Exit.inBlock, Exit.then]); refine bodyPost_ret (results_item rfl _ _ _ _ _ _ _ _ _ _ rfl rfl (set4_heap ((HB1.out.block w.heap.size (by simp)).trans (heap_alloc_new _ _)))) rfl ?_
    exact ⟨set4_below (hB0.trans (HB1.out.mono (by simp))) (Nat.le_refl _), rfl⟩
  | some key =>
    rw [hp] at h1
    clear hp
    simp only at h1
    have hk := encB_size key
    have hr' := encB_size r
    go_enter Tryz.func63, Tryz.ntmps63
    have hB0 : Below w.heap.size w (w.alloc (.cells #[.string ⟨#[]⟩, .string ⟨#[]⟩, .slice none 0 0, .int .i64 0] 122)) := (Below.refl _ _).alloc (Nat.le_refl _) _
    go_wp2_with (first | (go_at_call 66; refine (h1 _ hB0).mono ?_; rintro e w1 ⟨hB, vk, rfl, hvk⟩; obtain ⟨Ak, ck, rfl, _⟩ := hvk.shape; have HK := As.mk hvk; have HB1 := As.mk (hB.mono (show w.heap.size ≤ _ by simp)); have HX1 := As.mk ((hB.block w.heap.size (by simp)).trans (heap_alloc_new _ _)); clear hvk hB) | (go_at_call 69; refine (h4 _ _ key (hB0.trans HB1.out) (HK.out.mv (Stays.any _ _))).mono ?_; rintro e w2 ⟨rfl, hB⟩; have HB2 := As.mk (HB1.out.trans (hB.mono (hB0.trans HB1.out).size)); have HX2 := As.mk ((hB.block w.heap.size (Array.getElem?_eq_some_iff.1 HX1.out).1).trans HX1.out); clear hB HX1 HB1 HK) | (go_at_call 69; refine (h2 _ (hB0.trans HB2.out)).mono ?_; rintro e w3 ⟨rfl, hB⟩; have HB3 := As.mk (HB2.out.trans (hB.mono (hB0.trans HB2.out).size)); have HX3 := As.mk ((hB.block w.heap.size (Array.getElem?_eq_some_iff.1 HX2.out).1).trans HX2.out); clear hB HX2 HB2) | (go_at_call 60; refine (h3 _ (hB0.trans HB3.out)).mono ?_; rintro e w4 ⟨u4, rfl, hu4, hB⟩; obtain ⟨A4, c4, rfl, _⟩ := hu4.shape; have HU := As.mk hu4; have HB4 := As.mk (HB3.out.trans (hB.mono (hB0.trans HB3.out).size)); have HX4 := As.mk ((hB.block w.heap.size (Array.getElem?_eq_some_iff.1 HX3.out).1).trans HX3.out); have HS4 := As.mk (hB0.trans HB3.out).size; clear hu4 hB HX3 HB3; obtain ⟨r0, r1, r2, r3, z0, z1, z2, z3⟩ := cells4 HX4.out))
    (try simp only [Exit.inBlock, Exit.then]); refine bodyPost_ret (results_item rfl _ _ _ _ _ _ _ _ _ _ rfl rfl (set4_heap HX4.out)) rfl ?_
    refine ⟨set4_below (hB0.trans HB4.out) (Nat.le_refl _), _, _, rfl, ?_⟩
    exact HU.out.mv ((Stays.mono fun k t h => ⟨Nat.le_trans HS4.out h.1, h.2⟩).trans (Stays.set4 HX4.out (fun h => by have := h.2; simp at this)))
end Go.Proofs.YtflckpfpgpfjlaaGreatDoor
end
section
namespace Go.Proofs.YtflckpfpgpfjlaaGreatDoor
open Go.RowKit Go.Sort
/-- What a batch says of a key and a row. -/
def lookW (z : List GI) (k e : ByteArray) : Int := match z.find? (fun x => kcmp x.key x.enc k e == 0) with
  | some x => x.size
  | none => 0
def weightL (bs : List (List GI)) (k e : ByteArray) : Int := wrap64 ((bs.map (lookW · k e)).foldl (· + ·) 0)
theorem lookW_hit {z : List GI} {k e : ByteArray} {i : Nat} {x : GI} (hf : Found (fun x => kcmp x.key x.enc k e) z i true) (hx : z[i]? = some x) : lookW z k e = x.size := by
  have hm := hf.met
  rw [hx] at hm
  simp only at hm
  have h0 : kcmp x.key x.enc k e = 0 := of_decide_eq_true hm.symm
  have : z.find? (fun x => kcmp x.key x.enc k e == 0) = some x := by
    rw [List.find?_eq_some_iff_getElem]
    obtain ⟨hi, rfl⟩ := List.getElem?_eq_some_iff.1 hx
    refine ⟨by simpa using h0, i, hi, rfl, fun j hj => ?_⟩
    have := hf.below j z[j] hj (List.getElem?_eq_getElem (by omega))
    simp only [Bool.not_eq_true', beq_eq_false_iff_ne]
    omega
  unfold lookW
  rw [this]
theorem lookW_miss {z : List GI} {k e : ByteArray} {i : Nat} (hz : Rise z) (hf : Found (fun x => kcmp x.key x.enc k e) z i false) : lookW z k e = 0 := by
  have : z.find? (fun x => kcmp x.key x.enc k e == 0) = none := by
    rw [List.find?_eq_none]
    intro y hy h0
    have h0 : kcmp y.key y.enc k e = 0 := by simpa using h0
    obtain ⟨j, hj⟩ := List.mem_iff_getElem?.1 hy
    rcases Nat.lt_or_ge j i with hji | hji
    · have := hf.below j y hji hj
      omega
    · rcases Nat.lt_or_eq_of_le hji with hlt | rfl
      · obtain ⟨x, hx⟩ : ∃ x, z[i]? = some x := ⟨_, List.getElem?_eq_getElem (by have := (List.getElem?_eq_some_iff.1 hj).1; omega)⟩
        have h1 := hz.get hlt hx hj
        have h2 := hf.above i x (Nat.le_refl _) hx
        obtain ⟨e1, e2⟩ := kcmp_eq h0
        unfold GI.cmp at h1
        rw [e1, e2] at h1
        omega
      · have hm := hf.met
        rw [hj] at hm
        simp only at hm
        exact absurd h0 (of_decide_eq_false hm.symm)
  unfold lookW
  rw [this]
theorem foldl_add (l : List Int) (a : Int) : l.foldl (· + ·) a = a + l.foldl (· + ·) 0 := by
  induction l generalizing a with
  | nil => simp
  | cons x l ih => rw [List.foldl_cons, ih, List.foldl_cons, ih (0 + x)]; omega
theorem weightL_nil (k e : ByteArray) : weightL [] k e = 0 := by unfold weightL wrap64; rfl
theorem weightL_step (bs : List (List GI)) (k e : ByteArray) (j : Nat) (z : List GI) (hz : bs[j]? = some z) : weightL (bs.take (j + 1)) k e = wrap64 (weightL (bs.take j) k e + lookW z k e) := by
  unfold weightL
  rw [List.take_add_one, hz, Option.toList_some, List.map_append, List.foldl_append, List.map_cons, List.map_nil, List.foldl_cons, List.foldl_nil]
  generalize List.foldl _ _ _ = q
  unfold wrap64
  omega
/-- A spine, read. -/
theorem SpAt.bat {base : Nat → Prop} {b : Nat} {w : World} {S : GS} (h : SpAt base b w S) : ∃ u bv, w.heap[b]? = some (.cells #[u, bv, .int .i64 S.live] 136 (0, 0)) ∧ RdI w AnyB u S.cols ∧ RdL 1 (EBt w AnyB) w AnyB bv S.bs :=
  let ⟨u, bv, h1, h2, h3, _⟩ := h
  ⟨u, bv, h1, h2.mv (Stays.any _ _), RdL.move (h3.rd (ok := AnyB) fun _ _ => trivial) (fun _ _ e => e.mv (Stays.any _ _)) (Stays.mono fun _ _ h => h)⟩
theorem spine_cells {w : World} {k : Nat} {a b c : Value} {T : TypeId} (h : w.heap[k]? = some (.cells #[a, b, c] T (0, 0))) :
    w.cell? ⟨k, 0, none⟩ = some a ∧ w.cell? ⟨k, 1, none⟩ = some b ∧ w.cell? ⟨k, 2, none⟩ = some c ∧ w.frozen? ⟨k, 0, none⟩ = false ∧ w.frozen? ⟨k, 1, none⟩ = false ∧ w.frozen? ⟨k, 2, none⟩ = false := by
  refine ⟨?_, ?_, ?_, Lib.frozen_of_heap h 0, Lib.frozen_of_heap h 1, Lib.frozen_of_heap h 2⟩ <;> rw [Lib.cell_of_heap h] <;> rfl
set_option maxRecDepth 100000 in
theorem weight_any (base : Nat → Prop) (b : Nat) (S : GS) (k e : ByteArray) (A0 : Option Addr) (n0 d0 : Nat) (s : Int) (w : World) (h : SpAt base b w S) (hR : ∀ z ∈ S.bs, Rise z) :
    Calls Tryz.prog 64 #[.pointer (some ⟨b, 0, none⟩), .agg #[.string k, .string e, .slice A0 n0 d0, .int .i64 s]] w fun r w' => r = .returned (.int .i64 (weightL S.bs k e)) ∧ Ext w w' := by
  obtain ⟨u, bv, hb, _, hbs⟩ := h.bat
  obtain ⟨A, c, rfl, hc⟩ := hbs.shape
  have hl := hbs.len
  obtain ⟨_, c1, _⟩ := spine_cells hb
  have hlt := World.block_lt_of_cell? w _ c1
  have HB := As.mk hbs
  have HR := As.mk hR
  obtain ⟨_, bs, _⟩ := S
  simp only at *
  clear h hb hbs hR
  have d1 : (w.alloc (.cells #[.string k, .string e, .slice A0 n0 d0, .int .i64 s] 122)).cell? ⟨b, 1, none⟩ = some (.slice A bs.length c) := Ext.cell (Ext.alloc (Ext.refl _) _) c1
  obtain ⟨x0, x1, x2, x3, _⟩ := cells4 (heap_alloc_new w (.cells #[.string k, .string e, .slice A0 n0 d0, .int .i64 s] 122))
  go_enter Tryz.func64, Tryz.ntmps64
  go_wp2_with fail
  have hE0 : Ext w (w.alloc (.cells #[.string k, .string e, .slice A0 n0 d0, .int .i64 s] 122)) := (by repeat (first | (with_reducible exact Ext.refl _) | (with_reducible assumption) | (with_reducible apply Ext.alloc) | (with_reducible apply Ext.drewN) | (with_reducible apply Ext.drew) | (with_reducible apply Ext.grow) | (with_reducible refine Ext.trans ?_ (by with_reducible assumption))))
  generalize w.heap.size = bx at *
  generalize w.alloc (.cells #[.string k, .string e, .slice A0 n0 d0, .int .i64 s] 122) = W0 at *
  go_loopg [5, 15] bs.length (fun g s5 s15 wr => ∃ (j : Nat), j ≤ bs.length ∧ bs.length - j ≤ g ∧ s15 = .int .i64 j ∧ s5 = .int .i64 (weightL (bs.take j) k e) ∧ As (Ext W0 wr))
  case atStart => exact ⟨0, by omega, by omega, by go_num, by rw [List.take_zero, weightL_nil], ⟨Ext.refl _⟩⟩
  case round =>
    obtain ⟨j, hj, hg, rfl, rfl, HE⟩ := hrel
    by_cases hlt : j < bs.length
    · have hltz : (j : Int) < (bs.length : Int) := by omega
      obtain ⟨z, hz⟩ : ∃ z, bs[j]? = some z := ⟨_, List.getElem?_eq_getElem hlt⟩
      obtain ⟨b0, o, c', hv, hb0, cs, _, ⟨vz, rfl, hvz⟩, _, hcc⟩ := HB.out.at hz
      have e0 := (hE0.trans HE.out).cell (hcc 0 vz rfl)
      simp only [Nat.mul_one, Nat.add_zero] at e0
      have hRz := HR.out z (List.mem_of_getElem? hz)
      have hvz2 := hvz.ext (hE0.trans HE.out).below
      injection hv with hA _ hccc
      subst hA
      have y0 := HE.out.cell x0
      have y1 := HE.out.cell x1
      have y2 := HE.out.cell x2
      have y3 := HE.out.cell x3
      have hst := weightL_step bs k e j z hz
      obtain ⟨Az, cz, rfl, _⟩ := hvz2.shape
      have hbsr := bsItem_any _ z A0 d0 n0 k e s wr hvz2 (hRz.mono k e)
      have HZ := As.mk hvz2
      have HRZ := As.mk hRz
      clear hvz hvz2 hz hRz hcc hccc
      have HST := As.mk hst
      clear hst
      have hwi : i64 (weightL (bs.take j) k e) := by unfold weightL wrap64 i64; omega
      generalize weightL (bs.take j) k e = n0' at *
      go_wp2_with fail
      refine hbsr.mono ?_
      rintro r w3 ⟨⟨i, fb, rfl, hf⟩, hE3⟩
      cases fb with
      | false =>
        have hlk := lookW_miss HRZ.out hf
        rw [hlk, Int.add_zero] at HST
        have HE2 := As.mk (HE.out.trans hE3)
        clear hf hE3 hlk
        go_wp2
        go_roundg (bs.length - (j + 1))
        case measure => omega
        case rel => exact ⟨j + 1, by omega, by omega, by go_num, by rw [HST.out]; unfold i64 at hwi; unfold wrap64; go_num, HE2⟩
      | true =>
        obtain ⟨x, hx⟩ : ∃ x, z[i]? = some x := by
          have hm := hf.met
          cases hzi : z[i]? with
          | none => rw [hzi] at hm; cases hm
          | some x => exact ⟨x, rfl⟩
        have hlk := lookW_hit hf hx
        rw [hlk] at HST
        have HE2 := As.mk (HE.out.trans hE3)
        obtain ⟨b1, o1, c1', A1, d1', hv, hb1, hxs, _, _, _, _, _, g3⟩ := RdT.itm (HZ.out.ext hE3.below) hx
        injection hv with hA _ hccc
        subst hA
        have hil : i < z.length := (List.getElem?_eq_some_iff.1 hx).1
        have hilz : (i : Int) < (z.length : Int) := by omega
        clear hf hE3 hlk hx hccc
        obtain ⟨xk, xe, xr, xs⟩ := x
        simp only at *
        go_wp2
        go_roundg (bs.length - (j + 1))
        case measure => omega
        case rel => exact ⟨j + 1, by omega, by omega, by go_num, by rw [HST.out], HE2⟩
    · have hltz : ¬ (j : Int) < (bs.length : Int) := by omega
      obtain rfl : j = bs.length := by omega
      go_wp2
      go_ret
      exact ⟨rfl, hE0.trans HE.out⟩
theorem spHeld_nil (w : World) : Calls Tryz.prog 50 #[.pointer none] w fun r w' => r = .returned (.int .i64 0) ∧ w = w' := by
  go_enter Tryz.func50, Tryz.ntmps50
  go_wp2
  go_ret
  exact ⟨rfl, rfl⟩
def heldL : List (List GI) → Nat
  | [] => 0
  | z :: bs => z.length + heldL bs
theorem heldL_app (l m : List (List GI)) : heldL (l ++ m) = heldL l + heldL m := by
  induction l with
  | nil => simp [heldL]
  | cons z l ih => simp [heldL, ih, Nat.add_assoc]
theorem heldL_split (l : List (List GI)) (j : Nat) (z : List GI) (hz : l[j]? = some z) : heldL (l.take (j + 1)) = heldL (l.take j) + z.length ∧ heldL (l.take j) + z.length ≤ heldL l := by
  have h1 : heldL (l.take (j + 1)) = heldL (l.take j) + z.length := by
    rw [List.take_add_one, hz, Option.toList_some, heldL_app]; simp [heldL]
  have h2 := heldL_app (l.take (j + 1)) (l.drop (j + 1))
  rw [List.take_append_drop] at h2
  omega
theorem spHeld_any (base : Nat → Prop) (b : Nat) (S : GS) (w : World) (h : SpAt base b w S) (hH : heldL S.bs ≤ 4294967296) : Calls Tryz.prog 50 #[.pointer (some ⟨b, 0, none⟩)] w fun r w' => r = .returned (.int .i64 (heldL S.bs)) ∧ w = w' := by
  obtain ⟨u, bv, hb, _, hbs⟩ := h.bat
  obtain ⟨A, c, rfl, hc⟩ := hbs.shape
  have hl := hbs.len
  obtain ⟨_, c1, _⟩ := spine_cells hb
  have HB := As.mk hbs
  obtain ⟨_, bs, _⟩ := S
  simp only at *
  clear h hb hbs
  go_enter Tryz.func50, Tryz.ntmps50
  go_wp2_with fail
  go_loopg [3, 13] bs.length (fun g s3 s13 wr => ∃ (j : Nat), j ≤ bs.length ∧ bs.length - j ≤ g ∧ s13 = .int .i64 j ∧ s3 = .int .i64 (heldL (bs.take j) : Nat) ∧ w = wr)
  case atStart => exact ⟨0, by omega, by omega, by go_num, by rw [List.take_zero]; rfl, rfl⟩
  case round =>
    obtain ⟨j, hj, hg, rfl, rfl, rfl⟩ := hrel
    by_cases hlt : j < bs.length
    · have hltz : (j : Int) < (bs.length : Int) := by omega
      obtain ⟨z, hz⟩ : ∃ z, bs[j]? = some z := ⟨_, List.getElem?_eq_getElem hlt⟩
      obtain ⟨b0, o, c', hv, hb0, cs, _, ⟨vz, rfl, hvz⟩, _, hcc⟩ := HB.out.at hz
      have e0 := hcc 0 vz rfl
      simp only [Nat.mul_one, Nat.add_zero] at e0
      injection hv with hA _ hccc
      subst hA
      obtain ⟨Az, cz, rfl, _⟩ := hvz.shape
      obtain ⟨h1, h2⟩ := heldL_split bs j z hz
      have H1 := As.mk h1
      have hzl := hvz.len
      clear hvz hz hcc hccc h1
      generalize heldL (bs.take j) = m at *
      generalize heldL bs = mm at *
      go_wp2
      go_roundg (bs.length - (j + 1))
      case measure => omega
      case rel => exact ⟨j + 1, by omega, by omega, by go_num, by rw [H1.out]; go_num, rfl⟩
    · have hltz : ¬ (j : Int) < (bs.length : Int) := by omega
      obtain rfl : j = bs.length := by omega
      go_wp2
      go_ret
      exact ⟨rfl, rfl⟩
/-- (*Spine).Weight -/
def weightOf (S : GS) (r : List GV) : Int := match pick r S.cols with
  | none => 0
  | some key => weightL S.bs (encB key) (encB r)
theorem spWeight_nil (v : Value) (w : World) : Calls Tryz.prog 30 #[.pointer none, v] w fun e w' => e = .returned (.int .i64 0) ∧ w = w' := by
  go_enter Tryz.func30, Tryz.ntmps30
  go_wp2
  go_ret
  exact ⟨rfl, rfl⟩
theorem pick_unsound {r : List GV} {cols : List Int} (h : rsound r = false) : pick r cols = none := by unfold pick; rw [if_neg]; simp [h]
theorem spWeight_any (base : Nat → Prop) (b : Nat) (S : GS) (v : Value) (r : List GV) (w : World) (hw : GW w) (h : SpAt base b w S) (hR : ∀ z ∈ S.bs, Rise z) (hr : RdV w AnyB v r) :
    Calls Tryz.prog 30 #[.pointer (some ⟨b, 0, none⟩), v] w fun e w' => e = .returned (.int .i64 (weightOf S r)) ∧ Below w.heap.size w w' := by
  obtain ⟨u, bv, hb, hcs, hbs⟩ := h.bat
  have h1 := rSound_any v r w hr
  have h2 := fun W (hE : Below w.heap.size w W) => itemOf_any b u bv v S.live S.cols r W (hw.below hE) ((hE.block b (Array.getElem?_eq_some_iff.1 hb).1).trans hb) (hcs.ext hE) (hr.ext hE)
  have h3 := fun W (hE : Below w.heap.size w W) k e A n d => weight_any base b S k e A n d 0 W (h.ext hE) hR
  obtain ⟨A, c, rfl, hrc⟩ := hr.shape
  clear hr hb hcs hbs h hw hR
  unfold weightOf
  unfold ItemPost at h2
  cases hs : rsound r with
  | false =>
    rw [pick_unsound hs]
    rw [hs] at h1
    clear h2 h3 hs
    go_enter Tryz.func30, Tryz.ntmps30
    go_wp2_with (go_at_call 54; refine h1.mono ?_; rintro e w1 ⟨rfl, hE⟩)
    go_ret
    exact ⟨rfl, hE.below⟩
  | true =>
    rw [hs] at h1
    cases hp : pick r S.cols with
    | none =>
      rw [hp] at h2
      simp only at h2
      clear h3 hs hp
      go_enter Tryz.func30, Tryz.ntmps30
      go_wp2_with (first | (go_at_call 54; refine h1.mono ?_; rintro e w1 ⟨rfl, hE⟩) | (go_at_call 63; refine (h2 _ hE.below).mono ?_; rintro e w2 ⟨hB, rfl⟩))
      go_ret
      exact ⟨rfl, (hE.below.trans (hB.mono hE.size)).alloc (by have := hE.size; have := hB.size; omega) _⟩
    | some key =>
      rw [hp] at h2
      simp only at h2
      clear hs hp
      generalize weightL S.bs (encB key) (encB r) = ww at *
      go_enter Tryz.func30, Tryz.ntmps30
      go_wp2_with (first | (go_at_call 54; refine h1.mono ?_; rintro e w1 ⟨rfl, hE⟩) | (go_at_call 63; refine (h2 _ hE.below).mono ?_; rintro e w2 ⟨hB, A2, d2, rfl, hv2⟩; clear hv2) | (go_at_call 64; refine (h3 _ ((hE.below.trans (hB.mono hE.size)).alloc (Nat.le_trans hE.size hB.size) _) _ _ _ _ _).mono ?_; rintro e w3 ⟨rfl, hE3⟩))
      go_ret
      exact ⟨rfl, ((hE.below.trans (hB.mono hE.size)).alloc (Nat.le_trans hE.size hB.size) _).trans (hE3.below.mono (by have := hE.size; have := hB.size; simp; omega))⟩
end Go.Proofs.YtflckpfpgpfjlaaGreatDoor
end
section
namespace Go.Proofs.YtflckpfpgpfjlaaGreatDoor
open Go.RowKit Go.Sort
section
variable {base : Nat → Prop} {b : Nat} {w w' w'' : World}
theorem Mut.refl (base : Nat → Prop) (b : Nat) (w : World) : Mut base b w w := ⟨rfl, rfl, rfl, Nat.le_refl _, fun _ _ h _ _ => h⟩
theorem Mut.trans (h : Mut base b w w') (k : Mut base b w' w'') : Mut base b w w'' :=
  ⟨k.os.trans h.os, k.tape.trans h.tape, k.output.trans h.output, Nat.le_trans h.size k.size, fun i o hi hb ho => k.block i o (h.block i o hi hb ho) hb ho⟩
theorem Mut.ext (h : Mut base b w w') (k : Below w'.heap.size w' w'') : Mut base b w w'' :=
  ⟨k.os.trans h.os, k.tape.trans h.tape, k.output.trans h.output, Nat.le_trans h.size k.size, fun i o hi hb ho => let h2 := h.block i o hi hb ho; (k.block i (Array.getElem?_eq_some_iff.1 h2).1).trans h2⟩
theorem Mut.set (h : Mut base b w w') (i : Nat) (v : Value) : Mut base b w (w'.setCell ⟨b, i, none⟩ v) :=
  ⟨h.os, h.tape, h.output, by simpa using h.size, fun k o hk hb ho => by rw [Below.heap_setCell _ _ _ _ hb]; exact h.block k o hk hb ho⟩
theorem Mut.grown (h : Mut base b w w') {row : Option Nat} (hg : w'.grownBy w'' row) (hrow : ∀ g, row = some g → base g ∧ ∃ c fz, w'.heap[g]? = some (.cells c 133 fz)) : Mut base b w w'' := by
  refine ⟨hg.os.trans h.os, hg.tape.trans h.tape, hg.output.trans h.output, Nat.le_trans h.size hg.size, fun k o hk hb ho => ?_⟩
  have h2 := h.block k o hk hb ho
  refine (hg.block k (Array.getElem?_eq_some_iff.1 h2).1 fun e => ?_).trans h2
  obtain ⟨h3, c, fz, h4⟩ := hrow k e.symm
  rw [h2] at h4
  rcases ho with ho | ho
  · exact ho h3
  · exact ho c fz (Option.some.inj h4)
theorem Mut.stays (h : Mut base b w w') {cs : Array Value} {fr : Nat × Nat} (hb : w.heap[b]? = some (.cells cs 136 fr)) {ok ok' : Blk} (hok : ∀ k t, ok k t → t ≠ 136 ∧ t ≠ 133 ∧ ok' k t) : Stays w w' ok ok' := by
  intro k t cells f ho hh
  obtain ⟨h1, h2, h3⟩ := hok k t ho.1
  refine ⟨ho.mono fun t h => (hok k t h).2.2, h.block k _ hh ?_ (.inr fun c fz e => ?_)⟩
  · rintro rfl
    rw [hb] at hh
    injection hh with hh
    injection hh with _ h4 _
    exact h1 h4.symm
  · injection e with _ h4 _
    exact h2 h4
theorem Mut.below (h : Mut base b w w') {B : Nat} (h1 : ∀ k, base k → B ≤ k) (h2 : B ≤ b) (hB : B ≤ w.heap.size) : Below B w w' :=
  ⟨h.os, h.tape, h.output, h.size, fun k hk => by
    have hlt : k < w.heap.size := by omega
    rw [h.block k _ (Array.getElem?_eq_getElem hlt) (by omega) (.inl (fun hp => by have := h1 k hp; omega)), Array.getElem?_eq_getElem hlt]⟩
end
theorem OwnL.set {α : Type} {sz : Nat} {E : α → List Value → Prop} {e T : TypeId} {w : World} {base : Nat} {v : Value} {xs : List α} {cs : Array Value} {fr : Nat × Nat} (h : OwnL sz E e w base v xs) {p : Addr} (hp : w.heap[p.block]? = some (.cells cs T fr)) (hT : T ≠ e) (u : Value) : OwnL sz E e (w.setCell p u) base v xs := by
  have hne : v.ownBlock ≠ some p.block := fun hk => by
    obtain ⟨cells, hc⟩ := h.typed _ hk
    rw [hp] at hc
    injection hc with hc
    injection hc with _ h2 _
    exact hT h2
  obtain ⟨ds, ho, hr, h1, hl⟩ := h
  exact ⟨ds, ownsRow_setCell_other ho hne u, hr, h1, hl⟩
theorem OwnL.stays {α : Type} {sz : Nat} {E E' : α → List Value → Prop} {e : TypeId} {w : World} {base : Nat} {v : Value} {xs : List α} (h : OwnL sz E e w base v xs) (hE : ∀ x cs, E x cs → E' x cs) : OwnL sz E' e w base v xs := h.imp hE
theorem tag_eq {w : World} {k : Nat} {a c : Array Value} {T T' : TypeId} {f f' : Nat × Nat} (h : w.heap[k]? = some (.cells a T f)) (h' : w.heap[k]? = some (.cells c T' f')) : T = T' := by
  rw [h] at h'
  injection h' with h'
  injection h' with _ h2 _
theorem fresh_own {base : Nat} : ∀ k t, Fresh base [122, 96] k t → t ≠ 136 ∧ t ≠ 133 ∧ Fresh base [122, 96] k t := by
  intro k t h
  have h2 := h.2
  simp only [List.mem_cons, List.not_mem_nil, or_false] at h2
  rcases h2 with rfl | rfl
  · exact ⟨by decide, by decide, h⟩
  · exact ⟨by decide, by decide, h⟩
theorem rowB_own {base : Nat → Prop} : ∀ k t, RowB base k t → t ≠ 136 ∧ t ≠ 133 ∧ RowB base k t := by
  intro k t h
  have h2 := h.2
  simp only [List.mem_cons, List.not_mem_nil, or_false] at h2
  rcases h2 with rfl | rfl
  · exact ⟨by decide, by decide, h⟩
  · exact ⟨by decide, by decide, h⟩
theorem fresh_cols {base : Nat} : ∀ k t, Fresh base [3] k t → t ≠ 136 ∧ t ≠ 133 ∧ Fresh base [3] k t := by
  intro k t h
  have h2 := h.2
  simp only [List.mem_cons, List.not_mem_nil, or_false] at h2
  subst h2
  exact ⟨by decide, by decide, h⟩
theorem info_items : (Tryz.prog.info? 133).map (fun i => (i.zero, i.size, i.bytes)) = some (some (.slice none 0 0), 1, 24) := by kernel_rfl
theorem set3_heap {w : World} {k : Nat} {a b c b' : Value} {T : TypeId} (h : w.heap[k]? = some (.cells #[a, b, c] T (0, 0))) :
    (w.setCell ⟨k, 1, none⟩ b').heap[k]? = some (.cells #[a, b', c] T (0, 0)) := by
  have h1 := heap_setCell_same w k 1 _ T b' h
  simpa using h1
/-- A batch has been appended: what is to be stored. -/
theorem own_next {base : Nat → Prop} {v v1 : Value} {W : World} (hp : ∀ g, v.ownBlock = some g → base g) (hbw : ∀ k, W.heap.size ≤ k → base k) (hat : v1.ownBlock = v.ownBlock ∨ ∃ b, v1.ownBlock = some b ∧ W.heap.size ≤ b) : ∀ g, v1.ownBlock = some g → base g := fun g hg => by
  rcases hat with h | ⟨b, h, hb⟩
  · exact hp g (h ▸ hg)
  · rw [h] at hg
    injection hg with hg
    exact hg ▸ hbw b hb
theorem sp_push {base : Nat → Prop} {b : Nat} {w w3 : World} {u bv v3 : Value} {live : Int} {cols : List Int} {pre : List (List GI)} {m : List GI}
    (hb : w.heap[b]? = some (.cells #[u, bv, .int .i64 live] 136 (0, 0))) (hcs : RdI w (Fresh 0 [3]) u cols) (hu : OwnL 1 (EBt w (RowB base)) 133 w 0 bv pre) (hP : ∀ g, bv.ownBlock = some g → base g)
    (hown : OwnL 1 (EBt w (RowB base)) 133 w3 0 v3 (pre ++ [m])) (hP3 : ∀ g, v3.ownBlock = some g → base g) (hg : w.grownBy w3 bv.ownBlock) :
    ∃ A3 c3, v3 = .slice A3 (pre.length + 1) c3 ∧ w3.heap[b]? = some (.cells #[u, bv, .int .i64 live] 136 (0, 0)) ∧
      SpAt base b (w3.setCell ⟨b, 1, none⟩ (.slice A3 (pre.length + 1) c3)) ⟨cols, pre ++ [m], live⟩ ∧ Mut base b w (w3.setCell ⟨b, 1, none⟩ (.slice A3 (pre.length + 1) c3)) := by
  have hrow : ∀ g, bv.ownBlock = some g → base g ∧ ∃ c fz, w.heap[g]? = some (.cells c 133 fz) := fun g hg => ⟨hP g hg, let ⟨c, hc⟩ := hu.typed g hg; ⟨c, _, hc⟩⟩
  have hne : bv.ownBlock ≠ some b := fun hg => let ⟨_, c, fz, hc⟩ := hrow b hg; absurd (tag_eq hb hc) (by decide)
  have hb3 := (hg.block b (Array.getElem?_eq_some_iff.1 hb).1 (fun e => hne e.symm)).trans hb
  obtain ⟨A3, c3, rfl, _⟩ := hown.shape
  rw [show (pre ++ [m]).length = pre.length + 1 by simp] at hown ⊢
  have hM := ((Mut.refl base b w).grown hg hrow).set 1 (.slice A3 (pre.length + 1) c3)
  refine ⟨A3, c3, rfl, hb3, ⟨_, _, set3_heap hb3, hcs.mv (hM.stays hb fresh_cols), ?_, fun g hg => hP3 g (by cases A3 <;> exact hg)⟩, hM⟩
  exact (hown.set (p := ⟨b, 1, none⟩) hb3 (by decide) _).imp fun _ _ h => EBt.mv h (hM.stays hb rowB_own)
/-- The last two batches as one. -/
def joinL (pre : List (List GI)) (x y : List GI) : List (List GI) := if mergeL x y = [] then pre else pre ++ [mergeL x y]
set_option maxRecDepth 100000 in
set_option maxHeartbeats 4000000 in
theorem join_any (base : Nat → Prop) (b : Nat) (cols : List Int) (pre : List (List GI)) (x y : List GI) (live : Int) (w : World) (hbw : ∀ k, w.heap.size ≤ k → base k) (h : SpAt base b w ⟨cols, pre ++ [x, y], live⟩) (hl : x.length + y.length ≤ 4294967296) :
    Calls Tryz.prog 136 #[.pointer (some ⟨b, 0, none⟩)] w fun r w' => r = .returned (.tuple #[]) ∧ SpAt base b w' ⟨cols, joinL pre x y, live⟩ ∧ Mut base b w w' := by
  obtain ⟨u, bv, hb, hcs, hbs, hPP⟩ := h
  have HPP := As.mk hPP
  have HBW0 := As.mk hbw
  clear hPP hbw
  simp only at *
  obtain ⟨A, c, rfl, hc⟩ := hbs.shape
  obtain ⟨i0, hi, hzz⟩ := Option.map_eq_some_iff.1 info_items
  simp only [Prod.mk.injEq] at hzz
  obtain ⟨hz0, hz1, hz2⟩ := hzz
  have hlen : (pre ++ [x, y]).length = pre.length + 2 := by simp
  have hrd := hbs.rd (ok := AnyB) fun _ _ => trivial
  have hll := hbs.len
  rw [hlen] at hll hc
  obtain ⟨b0, o, c', hv, hb0, cs, _, ⟨vx, rfl, hvx⟩, _, hcx⟩ := hrd.at (j := pre.length) (x := x) (by simp)
  obtain ⟨b0', o', c'', hv', hb0', cs, _, ⟨vy, rfl, hvy⟩, _, hcy⟩ := hrd.at (j := pre.length + 1) (x := y) (by rw [List.getElem?_append_right (by omega)]; simp)
  injection hv with hA _ hcc
  subst hA hcc
  injection hv' with hA _ hcc
  subst hcc
  injection hA with hA
  injection hA with h1 h2 _
  subst h1 h2
  have e0 := hcx 0 vx rfl
  have e1 := hcy 0 vy rfl
  simp only [Nat.mul_one, Nat.add_zero] at e0 e1
  obtain ⟨Ax, cx, rfl, _⟩ := hvx.shape
  obtain ⟨Ay, cy, rfl, _⟩ := hvy.shape
  obtain ⟨c0, c1, c2, z0, z1, z2⟩ := spine_cells hb
  have h1 := fun W (hE : Ext w W) => merged_any _ _ x y _ W (hvx.ext hE.below) (hvy.ext hE.below) hl
  rw [hlen] at hb c1
  have hup := hbs.upto Tryz.underlying134 hi hz1 pre.length (by rw [hlen]; omega) .i64
  rw [hlen] at hup
  have hup1 := hup.1
  have HU := As.mk hup.2
  rw [List.take_left] at HU
  have HBW := As.mk hb
  have HCS := As.mk hcs
  clear hbs hrd hvx hvy hcx hcy hup hcs hb hi hz0 hz1 hz2
  have HJ : As (joinL pre x y = if mergeL x y = [] then pre else pre ++ [mergeL x y]) := ⟨rfl⟩
  generalize joinL pre x y = jl at *
  generalize mergeL x y = m at *
  have k1 : IntKind.i64.wrap (((pre.length : Int) + 2) - 2) = (pre.length : Int) := by rw [IntKind.wrap_i64]; omega
  have k2 : IntKind.i64.wrap (((pre.length : Int) + 2) - 1) = (pre.length : Int) + 1 := by rw [IntKind.wrap_i64]; omega
  have k3 : IntKind.i64.wrap (pre.length : Int) = (pre.length : Int) := by rw [IntKind.wrap_i64]; omega
  have k4 : IntKind.i64.wrap ((pre.length : Int) + 1) = (pre.length : Int) + 1 := by rw [IntKind.wrap_i64]; omega
  have k5 : ((pre.length : Int) + 1).toNat = pre.length + 1 := by omega
  have k6 : (pre.length : Int) < (pre.length : Int) + 2 := by omega
  have k7 : (pre.length : Int) + 1 < (pre.length : Int) + 2 := by omega
  have k8 : 0 ≤ (pre.length : Int) + 1 := by omega
  go_enter Tryz.func136, Tryz.ntmps136
  go_wp2_with fail
  refine wp_region_still_tail 16 (by kernel_rfl) (by kernel_rfl) ?_
  simp only [List.take_succ_cons, List.take_zero, List.drop_succ_cons, List.drop_zero]
  repeat still_step
  refine wpStill_nil ?_
  have h1' := h1 w.drew (Ext.drew (Ext.refl _))
  have hbl := (Array.getElem?_eq_some_iff.1 HBW.out).1
  clear h1 c0 c1 c2 z0 z1 z2 e0 e1
  go_wp2_with fail
  refine h1'.mono ?_
  rintro e w1 ⟨vm, rfl, hown, hB⟩
  obtain ⟨Am, cm, rfl, _⟩ := hown.shape
  have hBw : Below w.heap.size w w1 := ⟨hB.os, hB.tape, hB.output, hB.size, hB.block⟩
  have HM1 := As.mk ((Mut.refl base b w).ext hBw)
  have HBK1 := As.mk ((hBw.block b hbl).trans HBW.out)
  have HOM : As (OwnL 4 (EIt w1 (RowB base)) 122 w1 w.heap.size (.slice Am m.length cm) m) := ⟨hown⟩
  have HU1 : As (OwnL 1 (EBt w1 (RowB base)) 133 w1 0 (.slice (some ⟨b0, o, none⟩) pre.length c) pre) := ⟨(HU.out.below hBw).imp fun _ _ h => h.mv (Stays.below hBw _)⟩
  have hs1 : w.heap.size ≤ w1.heap.size := hBw.size
  have HCS1 := As.mk (HCS.out.ext hBw)
  clear hown hB hBw h1' HU HCS HBW
  obtain ⟨c0, c1, c2, z0, z1, z2⟩ := spine_cells HBK1.out
  have HB2 := As.mk (set3_heap (b' := .slice (some ⟨b0, o, none⟩) pre.length c) HBK1.out)
  have HM2 := As.mk (HM1.out.set 1 (.slice (some ⟨b0, o, none⟩) pre.length c))
  have HS2 := (Mut.refl base b w1).set 1 (.slice (some ⟨b0, o, none⟩) pre.length c)
  have HCS2 := As.mk (HCS1.out.mv (HS2.stays HBK1.out fresh_cols))
  have HU2 := As.mk ((HU1.out.set (p := ⟨b, 1, none⟩) HBK1.out (by decide) (.slice (some ⟨b0, o, none⟩) pre.length c)).imp fun x cs h => EBt.mv h (HS2.stays HBK1.out rowB_own))
  have HOM2 : As (RdT (w1.setCell ⟨b, 1, none⟩ (.slice (some ⟨b0, o, none⟩) pre.length c)) (RowB base) (.slice Am m.length cm) m) := ⟨RdT.mv (HOM.out.rd (ok := RowB base) fun k hk => ⟨HBW0.out k hk, by simp⟩) (HS2.stays HBK1.out rowB_own)⟩
  have hbs2 : 0 ≤ (w1.setCell ⟨b, 1, none⟩ (.slice (some ⟨b0, o, none⟩) pre.length c)).heap.size := Nat.zero_le _
  have HP2 : As (∀ g, (Value.slice (some ⟨b0, o, none⟩) pre.length c).ownBlock = some g → base g) := HPP
  have HBW2 : As (∀ k, (w1.setCell ⟨b, 1, none⟩ (.slice (some ⟨b0, o, none⟩) pre.length c)).heap.size ≤ k → base k) := ⟨fun k hk => HBW0.out k (by simp at hk; omega)⟩
  by_cases hm0 : m = []
  · subst hm0
    rw [if_pos rfl] at HJ
    obtain rfl := HJ.out
    go_wp2
    go_end0
    exact ⟨rfl, ⟨_, _, HB2.out, HCS2.out, HU2.out, HP2.out⟩, HM2.out⟩
  · have hml : 0 < m.length := List.length_pos_iff.2 hm0
    have hmlz : 0 < (m.length : Int) := by omega
    rw [if_neg hm0] at HJ
    obtain rfl := HJ.out
    generalize hW2 : w1.setCell ⟨b, 1, none⟩ (.slice (some ⟨b0, o, none⟩) pre.length c) = w2 at *
    clear hm0
    obtain ⟨d0, d1, d2, y0, y1, y2⟩ := spine_cells HB2.out
    have hbl2 := (Array.getElem?_eq_some_iff.1 HB2.out).1
    go_wp2_with (at_builtin; go_loud (refine OwnL.append (W := w2) (w0 := w2) 0 rfl (.tmp 43) (.tmp 45) 134 133 _ 1 24 rfl Tryz.underlying134 info_items rfl (by decide) (by decide) _ pre m [.slice Am m.length cm] rfl rfl ⟨_, rfl, HOM2.out⟩ rfl (by simp [Value.oneCell']) HU2.out (Below.refl _ _) hbs2 (by omega) rfl ?_; intro v3 w3 hown3 hb3 hg3 hat3; obtain ⟨A3, c3, rfl, hB3, hS3, hM3⟩ := sp_push HB2.out HCS2.out HU2.out HP2.out hown3 (own_next HP2.out HBW2.out hat3) hg3; have HS3 := As.mk hS3; have HM3 := As.mk hM3; obtain ⟨f0, f1, f2, x0, x1, x2⟩ := spine_cells hB3; clear hown3 hb3 hg3 hat3 hS3 hM3 hB3))
    go_end0
    exact ⟨rfl, HS3.out, HM2.out.trans HM3.out⟩
end Go.Proofs.YtflckpfpgpfjlaaGreatDoor
end
section
namespace Go.Proofs.YtflckpfpgpfjlaaGreatDoor
open Go.RowKit Go.Sort
theorem mergeL_nil (x : List GI) : mergeL x [] = x := by cases x <;> simp [mergeL]
theorem mergeL_length (x y : List GI) : (mergeL x y).length ≤ x.length + y.length := by
  fun_induction mergeL x y <;> simp_all <;> omega
theorem joinL_held (pre : List (List GI)) (x y : List GI) : heldL (joinL pre x y) ≤ heldL (pre ++ [x, y]) := by
  have h := mergeL_length x y
  unfold joinL
  split
  · rw [heldL_app]; omega
  · rw [heldL_app, heldL_app]; simp [heldL]; omega
theorem joinL_length (pre : List (List GI)) (x y : List GI) : (joinL pre x y).length ≤ pre.length + 1 := by
  unfold joinL
  split <;> simp
/-- Batches joined from the end on, some times. -/
inductive Joins (bs : List (List GI)) : List (List GI) → Prop where
  | refl : Joins bs bs
  | step (pre : List (List GI)) (x y : List GI) : Joins bs (pre ++ [x, y]) → Joins bs (joinL pre x y)
theorem Joins.held {bs bs' : List (List GI)} (h : Joins bs bs') : heldL bs' ≤ heldL bs := by
  induction h with
  | refl => exact Nat.le_refl _
  | step pre x y _ ih => exact Nat.le_trans (joinL_held pre x y) ih
theorem Joins.trans {a b c : List (List GI)} (h : Joins a b) (k : Joins b c) : Joins a c := by
  induction k with
  | refl => exact h
  | step pre x y _ ih => exact .step pre x y ih
theorem last_two {bs : List (List GI)} (h : 1 < bs.length) : ∃ pre x y, bs = pre ++ [x, y] := by
  refine ⟨bs.take (bs.length - 2), bs[bs.length - 2], bs[bs.length - 1], ?_⟩
  have h1 := List.take_append_drop (bs.length - 2) bs
  have h2 : bs.drop (bs.length - 2) = [bs[bs.length - 2], bs[bs.length - 1]] := by
    rw [List.drop_eq_getElem_cons (by omega), List.drop_eq_getElem_cons (by omega), List.drop_eq_nil_of_le (by omega)]
    congr 2
    congr 1
    omega
  rw [h2] at h1
  exact h1.symm
/-- What changes of batches alone leave. -/
def SpStep (base : Nat → Prop) (b : Nat) (cols : List Int) (live : Int) (bs : List (List GI)) (w : World) (bs' : List (List GI)) (w' : World) : Prop :=
  SpAt base b w' ⟨cols, bs', live⟩ ∧ Joins bs bs' ∧ Mut base b w w'
theorem SpStep.join {base : Nat → Prop} {b : Nat} {cols : List Int} {live : Int} {bs : List (List GI)} {w w1 : World} {pre : List (List GI)} {x y : List GI} (h : SpStep base b cols live bs w (pre ++ [x, y]) w1) (hbw : ∀ k, w.heap.size ≤ k → base k) (hH : heldL bs ≤ 4294967296) :
    Calls Tryz.prog 136 #[.pointer (some ⟨b, 0, none⟩)] w1 fun r w' => r = .returned (.tuple #[]) ∧ SpStep base b cols live bs w (joinL pre x y) w' := by
  have h1 := h.2.1.held
  rw [heldL_app] at h1
  simp only [heldL] at h1
  exact (join_any base b cols pre x y live w1 (fun k hk => hbw k (Nat.le_trans h.2.2.size hk)) h.1 (by omega)).mono fun r w' ⟨hr, h2, h3⟩ => ⟨hr, h2, .step _ _ _ h.2.1, h.2.2.trans h3⟩
theorem SpStep.ext {base : Nat → Prop} {b : Nat} {cols : List Int} {live : Int} {bs bs' : List (List GI)} {w w1 w2 : World} (h : SpStep base b cols live bs w bs' w1) (hb : Below w1.heap.size w1 w2) : SpStep base b cols live bs w bs' w2 := ⟨h.1.ext hb, h.2.1, h.2.2.ext hb⟩
theorem SpStep.compact {base : Nat → Prop} {b : Nat} {cols : List Int} {live : Int} {bs bs' : List (List GI)} {w w1 : World} (h : SpStep base b cols live bs w bs' w1) (hbw : ∀ k, w.heap.size ≤ k → base k) (hH : heldL bs ≤ 4294967296)
    (hc : ∀ w1 bs', (∀ k, w1.heap.size ≤ k → base k) → SpAt base b w1 ⟨cols, bs', live⟩ → heldL bs' ≤ 4294967296 → Calls Tryz.prog 137 #[.pointer (some ⟨b, 0, none⟩)] w1 fun r w' => r = .returned (.tuple #[]) ∧ ∃ bs'', SpStep base b cols live bs' w1 bs'' w' ∧ bs''.length ≤ 1) :
    Calls Tryz.prog 137 #[.pointer (some ⟨b, 0, none⟩)] w1 fun r w' => r = .returned (.tuple #[]) ∧ ∃ bs'', SpStep base b cols live bs w bs'' w' ∧ bs''.length ≤ 1 :=
  (hc w1 bs' (fun k hk => hbw k (Nat.le_trans h.2.2.size hk)) h.1 (Nat.le_trans h.2.1.held hH)).mono fun r w' ⟨hr, bs'', h1, h2⟩ => ⟨hr, bs'', ⟨h1.1, h.2.1.trans h1.2.1, h.2.2.trans h1.2.2⟩, h2⟩
theorem compact_any (base : Nat → Prop) (b : Nat) (cols : List Int) (live : Int) (bs : List (List GI)) (w : World) (hbw : ∀ k, w.heap.size ≤ k → base k) (h : SpAt base b w ⟨cols, bs, live⟩) (hH : heldL bs ≤ 4294967296) :
    Calls Tryz.prog 137 #[.pointer (some ⟨b, 0, none⟩)] w fun r w' => r = .returned (.tuple #[]) ∧ ∃ bs', SpStep base b cols live bs w bs' w' ∧ bs'.length ≤ 1 := by
  have HS0 : As (SpStep base b cols live bs w bs w) := ⟨h, .refl, Mut.refl _ _ _⟩
  clear h
  go_enter Tryz.func137, Tryz.ntmps137
  go_wp2_with fail
  go_loopg [] bs.length (fun g wr => ∃ bs', bs'.length ≤ g ∧ As (SpStep base b cols live bs w bs' wr))
  case atStart => exact ⟨bs, Nat.le_refl _, HS0⟩
  case round =>
    obtain ⟨bs', hg, HS⟩ := hrel
    obtain ⟨u, bv, hb, _, hbs⟩ := HS.out.1.bat
    simp only at *
    obtain ⟨A, c, rfl, hc⟩ := hbs.shape
    have hl := hbs.len
    obtain ⟨c0, c1, c2, z0, z1, z2⟩ := spine_cells hb
    clear hb hbs
    by_cases hlt : 1 < bs'.length
    · have hltz : (1 : Int) < (bs'.length : Int) := by omega
      obtain ⟨pre, x, y, hbe⟩ := last_two hlt
      have hle : (joinL pre x y).length < bs'.length := by
        have := joinL_length pre x y
        rw [hbe, List.length_append]; simp; omega
      have HJ := As.mk ((hbe ▸ HS.out : SpStep base b cols live bs w (pre ++ [x, y]) wr).join hbw hH)
      clear hbe
      go_wp2_with (go_at_call 136; refine HJ.out.mono ?_; rintro r w2 ⟨rfl, hS⟩; have HS2 := As.mk hS; clear hS)
      go_roundg (joinL pre x y).length
      case measure => omega
      case rel => exact ⟨_, Nat.le_refl _, HS2⟩
    · have hltz : ¬ (1 : Int) < (bs'.length : Int) := by omega
      go_wp2
      go_end0
      exact ⟨rfl, bs', HS.out, by omega⟩
theorem compact_nil (w : World) : Calls Tryz.prog 137 #[.pointer none] w fun r w' => r = .returned (.tuple #[]) ∧ w = w' := by
  go_enter Tryz.func137, Tryz.ntmps137
  go_wp2_with fail
  go_loopg [] 0 (fun g wr => w = wr)
  case atStart => rfl
  case round =>
    obtain rfl := hrel
    go_wp2
    go_end0
    exact ⟨rfl, rfl⟩
set_option maxHeartbeats 4000000 in
set_option maxRecDepth 100000 in
theorem settle_any (base : Nat → Prop) (b : Nat) (cols : List Int) (live : Int) (bs : List (List GI)) (w : World) (hbw : ∀ k, w.heap.size ≤ k → base k) (h : SpAt base b w ⟨cols, bs, live⟩) (hH : heldL bs ≤ 4294967296) (hL : -1099511627776 ≤ live ∧ live ≤ 1099511627776) :
    Calls Tryz.prog 80 #[.pointer (some ⟨b, 0, none⟩)] w fun r w' => r = .returned (.tuple #[]) ∧ ∃ bs', SpStep base b cols live bs w bs' w' ∧ (bs'.length ≤ 1 ∨ (heldL bs' : Int) ≤ 2 * live + 16) := by
  obtain ⟨u0, bv0, hb0, _, hbs0⟩ := h.bat
  simp only at hb0 hbs0
  obtain ⟨A0, c0', rfl, hc0⟩ := hbs0.shape
  obtain ⟨_, q1, _⟩ := spine_cells hb0
  have HS0 : As (SpStep base b cols live bs w bs w) := ⟨h, .refl, Mut.refl _ _ _⟩
  have hl0 := hbs0.len
  clear h hb0 hbs0
  go_enter Tryz.func80, Tryz.ntmps80
  go_wp2_with fail
  go_loopg [2] bs.length (fun g s2 wr => ∃ bs', bs'.length ≤ g ∧ s2 = .int .i64 bs'.length ∧ As (SpStep base b cols live bs w bs' wr))
  case atStart => exact ⟨bs, Nat.le_refl _, rfl, HS0⟩
  case round =>
    obtain ⟨bs', hg, rfl, HS⟩ := hrel
    obtain ⟨u, bv, hb, _, hbs⟩ := HS.out.1.bat
    simp only at *
    obtain ⟨A, c, rfl, hc⟩ := hbs.shape
    have hl := hbs.len
    obtain ⟨c0, c1, c2, z0, z1, z2⟩ := spine_cells hb
    clear hb
    by_cases hlt : 1 < bs'.length
    · have hltz : (1 : Int) < (bs'.length : Int) := by omega
      obtain ⟨pre, x, y, rfl⟩ := last_two hlt
      have hlen : (pre ++ [x, y]).length = pre.length + 2 := by simp
      rw [hlen] at hl hc hg hltz c1
      obtain ⟨b0, o, c', hv, hb0, cs, _, ⟨vx, rfl, hvx⟩, _, hcx⟩ := hbs.at (j := pre.length) (x := x) (by simp)
      obtain ⟨b0', o', c'', hv', hb0', cs, _, ⟨vy, rfl, hvy⟩, _, hcy⟩ := hbs.at (j := pre.length + 1) (x := y) (by rw [List.getElem?_append_right (by omega)]; simp)
      injection hv with hA _ hcc
      subst hA hcc
      injection hv' with hA _ hcc
      subst hcc
      injection hA with hA
      injection hA with h1 h2 _
      subst h1 h2
      have e0 := hcx 0 vx rfl
      have e1 := hcy 0 vy rfl
      simp only [Nat.mul_one, Nat.add_zero] at e0 e1
      obtain ⟨Ax, cx, rfl, _⟩ := hvx.shape
      obtain ⟨Ay, cy, rfl, _⟩ := hvy.shape
      have hxl := hvx.len
      have hyl := hvy.len
      clear hvx hvy hcx hcy hbs
      have k3 : IntKind.i64.wrap (pre.length : Int) = (pre.length : Int) := by rw [IntKind.wrap_i64]; omega
      have k4 : IntKind.i64.wrap ((pre.length : Int) + 1) = (pre.length : Int) + 1 := by rw [IntKind.wrap_i64]; omega
      have k5 : ((pre.length : Int) + 1).toNat = pre.length + 1 := by omega
      have k6 : (pre.length : Int) < (pre.length : Int) + 2 := by omega
      have k7 : (pre.length : Int) + 1 < (pre.length : Int) + 2 := by omega
      have k8 : 0 ≤ (pre.length : Int) + 1 := by omega
      have hd1 : decide ((1 : Int) < (pre.length : Int) + 2) = true := decide_eq_true (by omega)
      have k9 : IntKind.i64.wrap (2 * (y.length : Int)) = 2 * (y.length : Int) := by rw [IntKind.wrap_i64]; omega
      by_cases hle : x.length ≤ 2 * y.length
      · have hlez : decide ((x.length : Int) ≤ 2 * (y.length : Int)) = true := decide_eq_true (by omega)
        have HJ := fun W (hE : Ext wr W) => (HS.out.ext hE.below).join hbw hH
        have hjl := joinL_length pre x y
        go_wp2_with fail
        go_quiet (fail)
        go_wp2_with (go_at_call 136; refine (HJ _ (by repeat (first | (with_reducible exact Ext.refl _) | (with_reducible assumption) | (with_reducible apply Ext.alloc) | (with_reducible apply Ext.drewN) | (with_reducible apply Ext.drew) | (with_reducible apply Ext.grow) | (with_reducible refine Ext.trans ?_ (by with_reducible assumption))))).mono ?_; rintro r w2 ⟨rfl, hS⟩; have HS2 := As.mk hS; obtain ⟨u2, bv2, hb2, _, hbs2⟩ := hS.1.bat; simp only at hb2 hbs2; obtain ⟨A2, c2', rfl, _⟩ := hbs2.shape; obtain ⟨t0, t1, t2, _⟩ := spine_cells hb2; clear hS hb2 hbs2)
        go_roundg (joinL pre x y).length
        case measure => omega
        case rel => exact ⟨_, Nat.le_refl _, rfl, HS2⟩
      · have hlez : decide ((x.length : Int) ≤ 2 * (y.length : Int)) = false := decide_eq_false (by omega)
        go_wp2_with fail
        have HC := fun W (hE : Ext wr W) => (HS.out.ext hE.below).compact hbw hH (fun w1 bs' h1 h2 h3 => compact_any base b cols live bs' w1 h1 h2 h3)
        have HHh := fun W (hE : Ext wr W) => spHeld_any base b ⟨cols, (pre ++ [x, y]), live⟩ W (HS.out.1.ext hE.below) (Nat.le_trans HS.out.2.1.held hH)
        have hhl := Nat.le_trans HS.out.2.1.held hH
        have m1 : IntKind.i64.wrap (2 * live) = 2 * live := by rw [IntKind.wrap_i64]; omega
        have m2 : IntKind.i64.wrap (2 * live + 16) = 2 * live + 16 := by rw [IntKind.wrap_i64]; omega
        simp only at HHh
        have HDN : As ((heldL (pre ++ [x, y]) : Int) ≤ 2 * live + 16 ∨ 2 * live + 16 < (heldL (pre ++ [x, y]) : Int)) := ⟨by omega⟩
        generalize hhd : heldL (pre ++ [x, y]) = hd at *
        go_quiet (fail)
        go_wp2_with fail
        by_cases hcmp : 2 * live + 16 < (hd : Int)
        · have hdc := decide_eq_true hcmp
          go_quiet ((go_at_call 50; exact (HHh _ (by repeat (first | (with_reducible exact Ext.refl _) | (with_reducible assumption) | (with_reducible apply Ext.alloc) | (with_reducible apply Ext.drewN) | (with_reducible apply Ext.drew) | (with_reducible apply Ext.grow) | (with_reducible refine Ext.trans ?_ (by with_reducible assumption))))).mono fun _ _ ⟨he, hw⟩ => ⟨he, _, hw.symm⟩))
          go_wp2_with (go_at_call 137; refine (HC _ (by repeat (first | (with_reducible exact Ext.refl _) | (with_reducible assumption) | (with_reducible apply Ext.alloc) | (with_reducible apply Ext.drewN) | (with_reducible apply Ext.drew) | (with_reducible apply Ext.grow) | (with_reducible refine Ext.trans ?_ (by with_reducible assumption))))).mono ?_; rintro r w2 ⟨rfl, bs2, hS, hl2⟩; have HS2 := As.mk hS; clear hS)
          go_end0
          exact ⟨rfl, bs2, HS2.out, .inl hl2⟩
        · have hdc := decide_eq_false hcmp
          go_quiet ((go_at_call 50; exact (HHh _ (by repeat (first | (with_reducible exact Ext.refl _) | (with_reducible assumption) | (with_reducible apply Ext.alloc) | (with_reducible apply Ext.drewN) | (with_reducible apply Ext.drew) | (with_reducible apply Ext.grow) | (with_reducible refine Ext.trans ?_ (by with_reducible assumption))))).mono fun _ _ ⟨he, hw⟩ => ⟨he, _, hw.symm⟩))
          go_wp2_with fail
          go_end0
          exact ⟨rfl, _, HS.out.ext (Ext.below (by repeat (first | (with_reducible exact Ext.refl _) | (with_reducible assumption) | (with_reducible apply Ext.alloc) | (with_reducible apply Ext.drewN) | (with_reducible apply Ext.drew) | (with_reducible apply Ext.grow) | (with_reducible refine Ext.trans ?_ (by with_reducible assumption))))), .inr (by rw [hhd]; omega)⟩
    · have hltz : decide ((1 : Int) < (bs'.length : Int)) = false := decide_eq_false (by omega)
      clear hbs
      go_wp2_with fail
      have HC := fun W (hE : Ext wr W) => (HS.out.ext hE.below).compact hbw hH (fun w1 bs' h1 h2 h3 => compact_any base b cols live bs' w1 h1 h2 h3)
      have HHh := fun W (hE : Ext wr W) => spHeld_any base b ⟨cols, bs', live⟩ W (HS.out.1.ext hE.below) (Nat.le_trans HS.out.2.1.held hH)
      have hhl := Nat.le_trans HS.out.2.1.held hH
      have m1 : IntKind.i64.wrap (2 * live) = 2 * live := by rw [IntKind.wrap_i64]; omega
      have m2 : IntKind.i64.wrap (2 * live + 16) = 2 * live + 16 := by rw [IntKind.wrap_i64]; omega
      simp only at HHh
      have HDN : As ((heldL bs' : Int) ≤ 2 * live + 16 ∨ 2 * live + 16 < (heldL bs' : Int)) := ⟨by omega⟩
      generalize hhd : heldL bs' = hd at *
      go_quiet (fail)
      go_wp2_with fail
      by_cases hcmp : 2 * live + 16 < (hd : Int)
      · have hdc := decide_eq_true hcmp
        go_quiet ((go_at_call 50; exact (HHh _ (by repeat (first | (with_reducible exact Ext.refl _) | (with_reducible assumption) | (with_reducible apply Ext.alloc) | (with_reducible apply Ext.drewN) | (with_reducible apply Ext.drew) | (with_reducible apply Ext.grow) | (with_reducible refine Ext.trans ?_ (by with_reducible assumption))))).mono fun _ _ ⟨he, hw⟩ => ⟨he, _, hw.symm⟩))
        go_wp2_with (go_at_call 137; refine (HC _ (by repeat (first | (with_reducible exact Ext.refl _) | (with_reducible assumption) | (with_reducible apply Ext.alloc) | (with_reducible apply Ext.drewN) | (with_reducible apply Ext.drew) | (with_reducible apply Ext.grow) | (with_reducible refine Ext.trans ?_ (by with_reducible assumption))))).mono ?_; rintro r w2 ⟨rfl, bs2, hS, hl2⟩; have HS2 := As.mk hS; clear hS)
        go_end0
        exact ⟨rfl, bs2, HS2.out, .inl hl2⟩
      · have hdc := decide_eq_false hcmp
        go_quiet ((go_at_call 50; exact (HHh _ (by repeat (first | (with_reducible exact Ext.refl _) | (with_reducible assumption) | (with_reducible apply Ext.alloc) | (with_reducible apply Ext.drewN) | (with_reducible apply Ext.drew) | (with_reducible apply Ext.grow) | (with_reducible refine Ext.trans ?_ (by with_reducible assumption))))).mono fun _ _ ⟨he, hw⟩ => ⟨he, _, hw.symm⟩))
        go_wp2_with fail
        go_end0
        exact ⟨rfl, _, HS.out.ext (Ext.below (by repeat (first | (with_reducible exact Ext.refl _) | (with_reducible assumption) | (with_reducible apply Ext.alloc) | (with_reducible apply Ext.drewN) | (with_reducible apply Ext.drew) | (with_reducible apply Ext.grow) | (with_reducible refine Ext.trans ?_ (by with_reducible assumption))))), .inr (by rw [hhd]; omega)⟩
end Go.Proofs.YtflckpfpgpfjlaaGreatDoor
end
