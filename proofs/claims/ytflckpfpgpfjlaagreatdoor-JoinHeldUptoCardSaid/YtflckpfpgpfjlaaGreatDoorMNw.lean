/- The reference's maker of a neat plan: its visits of a join's plan. The reference's neat plan of one join. The reference's neat plan of one join: neat, Neat. -/
import Derived.Test.YtflckpfpgpfjlaaGreatDoorMNt
import Derived.Test.YtflckpfpgpfjlaaGreatDoorMNg
import Derived.Test.YtflckpfpgpfjlaaGreatDoorMJp
import Derived.Test.YtflckpfpgpfjlaaGreatDoorMKy
set_option linter.unusedVariables false
set_option linter.unusedSimpArgs false
section
namespace Go.Proofs.YtflckpfpgpfjlaaGreatDoor
open Go.RowKit Go.Sort
def EN (n : List Value) (cs : List Value) : Prop := n = cs
def ES1 (s : ByteArray) (cs : List Value) : Prop := cs = [.string s]
def MkP (mb : Nat) (vo vt vw : Value) (k : Nat) : Prop := k = mb ∨ vo.ownBlock = some k ∨ vt.ownBlock = some k ∨ vw.ownBlock = some k
def MkV (n mb : Nat) (vo vt vw : Value) (w : World) (outs : List (List Value)) (texts : List ByteArray) (wh : List Int) : Prop :=
  n ≤ mb ∧ w.heap[mb]? = some (.cells #[vo, vt, vw] 266 (0, 0)) ∧ OwnL 13 EN 28 w n vo outs ∧ OwnL 1 ES1 9 w n vt texts ∧ OwnL 1 EI 3 w n vw wh
section
variable {n mb : Nat} {vo vt vw : Value} {w w' : World} {outs : List (List Value)} {texts : List ByteArray} {wh : List Int}
theorem MkV.ext (h : MkV n mb vo vt vw w outs texts wh) (hb : Below w.heap.size w w') : MkV n mb vo vt vw w' outs texts wh :=
  let ⟨h1, h2, h3, h4, h5⟩ := h; ⟨h1, (hb.block _ (Array.getElem?_eq_some_iff.1 h2).1).trans h2, h3.below hb, h4.below hb, h5.below hb⟩
theorem MkV.ge (h : MkV n mb vo vt vw w outs texts wh) {k : Nat} (hk : MkP mb vo vt vw k) : n ≤ k ∧ k < w.heap.size := by
  obtain ⟨h1, h2, h3, h4, h5⟩ := h
  rcases hk with rfl | hk | hk | hk
  · exact ⟨h1, (Array.getElem?_eq_some_iff.1 h2).1⟩
  · exact h3.lt k hk
  · exact h4.lt k hk
  · exact h5.lt k hk
theorem MkV.cells (h : MkV n mb vo vt vw w outs texts wh) : w.cell? ⟨mb, 0, none⟩ = some vo ∧ w.cell? ⟨mb, 1, none⟩ = some vt ∧ w.cell? ⟨mb, 2, none⟩ = some vw ∧ ∀ j, w.frozen? ⟨mb, j, none⟩ = false := by
  obtain ⟨h1, h2, h3, h4, h5⟩ := h
  refine ⟨?_, ?_, ?_, fun j => Lib.frozen_of_heap h2 j⟩ <;> rw [Lib.cell_of_heap h2] <;> rfl
end
def VisPost (n mb : Nat) (vo vt vw : Value) (outs : List (List Value)) (texts : List ByteArray) (wh : List Int) (i : Nat) (C : World → List (List Value) → List ByteArray → Prop) (w : World) (e : Ending) (w' : World) : Prop :=
  ∃ (vo' vt' vw' : Value) (outs' : List (List Value)) (texts' : List ByteArray) (at' : Int), e = .returned (.int .i64 at') ∧ i64 at' ∧ 0 ≤ at' ∧ MkV n mb vo' vt' vw' w' outs' texts' (wh.set i at') ∧ Wrote (MkP mb vo vt vw) w w' ∧
    (∀ k, MkP mb vo' vt' vw' k → MkP mb vo vt vw k ∨ w.heap.size ≤ k) ∧ outs'.length ≤ outs.length + 1 ∧ texts'.length ≤ texts.length + 1 ∧ C w' outs' texts'
theorem text_at {w : World} {n : Nat} {v : Value} {texts : List ByteArray} (h : OwnL 1 ES1 9 w n v texts) {j : Nat} {s : ByteArray} (hj : texts[j]? = some s) : ∃ g c, v = .slice (some ⟨g, 0, none⟩) texts.length c ∧ w.cell? ⟨g, j, none⟩ = some (.string s) := by
  obtain ⟨b, o, c, hv, _, cs, _, he, _, hc⟩ := (h.rd (ok := AnyB) fun _ _ => trivial).at hj
  unfold ES1 at he
  subst he
  have := hc 0 _ rfl
  rcases h with ⟨ds, ho, _⟩
  rcases ho.2 with ⟨hv2, _⟩ | ⟨g, cap, cur, hv2, _⟩
  · rw [hv2] at hv; injection hv with h1; cases h1
  · rw [hv2] at hv
    injection hv with h1 h2 h3
    injection h1 with h1
    injection h1 with h1 h4 _
    subst h1 h4
    exact ⟨g, cap, by rw [hv2, h2], by simpa using this⟩
theorem Wrote.trans' {P Q : Nat → Prop} {w w' w'' : World} (h : Wrote P w w') (k : Wrote Q w' w'') (hq : ∀ j, Q j → P j ∨ w.heap.size ≤ j) : Wrote P w w'' :=
  ⟨k.os.trans h.os, k.tape.trans h.tape, k.output.trans h.output, Nat.le_trans h.size k.size, fun i hi hp => (k.block i (Nat.lt_of_lt_of_le hi h.size) fun hj => (hq i hj).elim hp (fun h => by omega)).trans (h.block i hi hp)⟩
theorem info_str : (Tryz.prog.info? 9).map (fun i => (i.zero, i.size, i.bytes)) = some (some (.string ⟨#[]⟩), 1, 16) := by kernel_rfl
theorem info_node : (Tryz.prog.info? 28).map (fun i => (i.zero, i.size, i.bytes)) = some (some (.agg #[.int .i64 0, .int .i64 0, .int .i64 0, .int .i64 0, .string ⟨#[]⟩, .bool false, .slice none 0 0, .slice none 0 0, .slice none 0 0, .slice none 0 0, .slice none 0 0, .slice none 0 0, .slice none 0 0]), 13, 224) := by kernel_rfl
theorem cells3 {w : World} {k : Nat} {T : TypeId} {fr : Nat × Nat} {a b c : Value} (h : w.heap[k]? = some (.cells #[a, b, c] T fr)) : w.cell? ⟨k, 0, none⟩ = some a ∧ w.cell? ⟨k, 1, none⟩ = some b ∧ w.cell? ⟨k, 2, none⟩ = some c ∧ True := by
  refine ⟨?_, ?_, ?_, trivial⟩ <;> rw [Lib.cell_of_heap h] <;> rfl
theorem own_ne {α β : Type} {sz sz' : Nat} {E : α → List Value → Prop} {E' : β → List Value → Prop} {e e' : TypeId} {w : World} {n n' : Nat} {v v' : Value} {xs : List α} {ys : List β} (h : OwnL sz E e w n v xs) (h' : OwnL sz' E' e' w n' v' ys) (hne : e ≠ e') : v.ownBlock = none ∨ v.ownBlock ≠ v'.ownBlock := by
  cases hb : v.ownBlock with
  | none => exact .inl rfl
  | some k =>
    right
    intro e
    obtain ⟨c, hc⟩ := h.typed k hb
    obtain ⟨c', hc'⟩ := h'.typed k e.symm
    exact tags_ne hc hc' hne
theorem OwnL.setOther {α : Type} {sz : Nat} {E : α → List Value → Prop} {e T : TypeId} {w : World} {n k j : Nat} {v u : Value} {xs : List α} {c : Array Value} {fr : Nat × Nat} (h : OwnL sz E e w n v xs) (hk : w.heap[k]? = some (.cells c T fr)) (hne : T ≠ e) : OwnL sz E e (w.setCell ⟨k, j, none⟩ u) n v xs :=
  h.held fun g c' hg hh => by
    rw [heap_setCell_other _ ⟨k, j, none⟩ g u (by rintro rfl; exact tags_ne hk hh hne)]; exact hh
section
variable {n mb : Nat} {vo vt vw v1 : Value} {w w4 : World} {outs : List (List Value)} {texts : List ByteArray} {wh : List Int}
theorem MkV.keptMb (h : MkV n mb vo vt vw w outs texts wh) {α : Type} {sz : Nat} {E : α → List Value → Prop} {e : TypeId} {v : Value} {xs : List α} (hv : OwnL sz E e w n v xs) (hne : e ≠ 266) (hg : w.grownBy w4 v.ownBlock) : w4.heap[mb]? = some (.cells #[vo, vt, vw] 266 (0, 0)) :=
  (hg.block mb (Array.getElem?_eq_some_iff.1 h.2.1).1 fun e' => by obtain ⟨c, hc⟩ := hv.typed mb e'.symm; exact tags_ne hc h.2.1 hne).trans h.2.1
theorem wrote_push {P : Nat → Prop} {row : Option Nat} {i : Nat} (hg : w.grownBy w4 row) (hr : ∀ k, row = some k → P k) (hm : P mb) : Wrote P w (w4.setCell ⟨mb, i, none⟩ v1) :=
  ⟨hg.os, hg.tape, hg.output, by simpa using hg.size, fun k hk hp => by
    rw [heap_setCell_other _ ⟨mb, i, none⟩ k v1 (fun e => hp (by rw [e]; exact hm))]
    exact hg.block k hk fun e => hp (hr k e.symm)⟩
theorem MkV.pushO {oq : List (List Value)} (h : MkV n mb vo vt vw w outs texts wh) (ho : OwnL 13 EN 28 w4 n v1 oq) (hg : w.grownBy w4 vo.ownBlock) (hat : v1.ownBlock = vo.ownBlock ∨ ∃ b, v1.ownBlock = some b ∧ w.heap.size ≤ b) :
    w4.heap[mb]? = some (.cells #[vo, vt, vw] 266 (0, 0)) ∧ MkV n mb v1 vt vw (w4.setCell ⟨mb, 0, none⟩ v1) oq texts wh ∧ Wrote (MkP mb vo vt vw) w (w4.setCell ⟨mb, 0, none⟩ v1) ∧ ∀ k, MkP mb v1 vt vw k → MkP mb vo vt vw k ∨ w.heap.size ≤ k := by
  have hmb := h.keptMb h.2.2.1 (by decide) hg
  refine ⟨hmb, ⟨h.1, heap_setCell_same _ mb 0 _ 266 v1 hmb, ho.setOther hmb (by decide), (h.2.2.2.1.kept hg (own_ne h.2.2.2.1 h.2.2.1 (by decide))).setOther hmb (by decide), (h.2.2.2.2.kept hg (own_ne h.2.2.2.2 h.2.2.1 (by decide))).setOther hmb (by decide)⟩, wrote_push hg (fun k hk => .inr (.inl hk)) (.inl rfl), fun k hk => ?_⟩
  rcases hk with rfl | hk | hk | hk
  · exact .inl (.inl rfl)
  · rcases hat with hat | ⟨b, hb, hle⟩
    · exact .inl (.inr (.inl (hat ▸ hk)))
    · rw [hb] at hk; injection hk with hk; exact .inr (hk ▸ hle)
  · exact .inl (.inr (.inr (.inl hk)))
  · exact .inl (.inr (.inr (.inr hk)))
theorem MkV.pushT {tq : List ByteArray} (h : MkV n mb vo vt vw w outs texts wh) (ho : OwnL 1 ES1 9 w4 n v1 tq) (hg : w.grownBy w4 vt.ownBlock) (hat : v1.ownBlock = vt.ownBlock ∨ ∃ b, v1.ownBlock = some b ∧ w.heap.size ≤ b) :
    w4.heap[mb]? = some (.cells #[vo, vt, vw] 266 (0, 0)) ∧ MkV n mb vo v1 vw (w4.setCell ⟨mb, 1, none⟩ v1) outs tq wh ∧ Wrote (MkP mb vo vt vw) w (w4.setCell ⟨mb, 1, none⟩ v1) ∧ ∀ k, MkP mb vo v1 vw k → MkP mb vo vt vw k ∨ w.heap.size ≤ k := by
  have hmb := h.keptMb h.2.2.2.1 (by decide) hg
  refine ⟨hmb, ⟨h.1, heap_setCell_same _ mb 1 _ 266 v1 hmb, (h.2.2.1.kept hg (own_ne h.2.2.1 h.2.2.2.1 (by decide))).setOther hmb (by decide), ho.setOther hmb (by decide), (h.2.2.2.2.kept hg (own_ne h.2.2.2.2 h.2.2.2.1 (by decide))).setOther hmb (by decide)⟩, wrote_push hg (fun k hk => .inr (.inr (.inl hk))) (.inl rfl), fun k hk => ?_⟩
  rcases hk with rfl | hk | hk | hk
  · exact .inl (.inl rfl)
  · exact .inl (.inr (.inl hk))
  · rcases hat with hat | ⟨b, hb, hle⟩
    · exact .inl (.inr (.inr (.inl (hat ▸ hk))))
    · rw [hb] at hk; injection hk with hk; exact .inr (hk ▸ hle)
  · exact .inl (.inr (.inr (.inr hk)))
theorem where_at (h : OwnL 1 EI 3 w n vw wh) {i : Nat} {x : Int} (hi : wh[i]? = some x) : ∃ g c, vw = .slice (some ⟨g, 0, none⟩) wh.length c ∧ w.cell? ⟨g, i, none⟩ = some (.int .i64 x) ∧ w.frozen? ⟨g, i, none⟩ = false := by
  obtain ⟨b, o, c, hv, _, _, hc⟩ := RdI.val (h.rd (ok := AnyB) fun _ _ => trivial) hi
  rcases h with ⟨ds, ho, _⟩
  rcases ho.2 with ⟨hv2, _⟩ | ⟨g, cap, cur, hv2, _, hh, _⟩
  · rw [hv2] at hv; injection hv with h1; cases h1
  · rw [hv2] at hv
    injection hv with h1 h2 h3
    injection h1 with h1
    injection h1 with h1 h4 _
    subst h1 h4
    exact ⟨g, cap, by rw [hv2, h2], by simpa using hc, Lib.frozen_of_heap hh i⟩
theorem MkV.setW {gw cw i : Nat} {q : Int} (h : MkV n mb vo vt (.slice (some ⟨gw, 0, none⟩) wh.length cw) w outs texts wh) (hi : i < wh.length) (hq : i64 q) : MkV n mb vo vt (.slice (some ⟨gw, 0, none⟩) wh.length cw) (w.setCell ⟨gw, i, none⟩ (.int .i64 q)) outs texts (wh.set i q) := by
  obtain ⟨h1, h2, h3, h4, h5⟩ := h
  obtain ⟨c, hc⟩ := h5.typed gw rfl
  refine ⟨h1, ?_, h3.setOther hc (by decide), h4.setOther hc (by decide), (h5.set1 hi ⟨rfl, hq⟩ rfl).1⟩
  rw [heap_setCell_other _ ⟨gw, i, none⟩ mb _ (by rintro rfl; exact tags_ne h2 hc (by decide))]; exact h2
end
set_option maxRecDepth 100000 in
set_option maxHeartbeats 2000000 in
theorem r6visit_in (n mb bp op cc L : Nat) (i : Nat) (x : Int) (vo vt vw : Value) (outs : List (List Value)) (texts : List ByteArray) (wh : List Int) (w : World) (hn : NdC w bp (op + i * 13) (inNode ⟨#[120]⟩ x)) (hbp : bp < n) (hil : i < L) (hnl : L ≤ 4294967296) (hx : i64 x) (h : MkV n mb vo vt vw w outs texts wh) (hwh : wh[i]? = some (-1)) (htx : ∀ s ∈ texts, Begins [49, 32] s) (hl : outs.length ≤ 100 ∧ texts.length ≤ 100) :
    Calls Tryz.prog 194 #[.pointer (some ⟨mb, 0, none⟩), .slice (some ⟨bp, op, none⟩) L cc, .int .i64 i] w (VisPost n mb vo vt vw outs texts wh i (fun _ _ ts => ∀ s ∈ ts, Begins [49, 32] s) w) := by
  have mixed := mixed
  have f0 := hn 0 _ rfl; have f1 := hn 1 _ rfl; have f2 := hn 2 _ rfl; have f3 := hn 3 _ rfl; have f4 := hn 4 _ rfl; have f5 := hn 5 _ rfl; have f6 := hn 6 _ rfl; have f7 := hn 7 _ rfl; have f8 := hn 8 _ rfl; have f9 := hn 9 _ rfl; have f10 := hn 10 _ rfl; have f11 := hn 11 _ rfl; have f12 := hn 12 _ rfl
  simp only [Nat.add_zero] at f0
  obtain ⟨m0, m1, m2, mf⟩ := h.cells
  have hwl := (List.getElem?_eq_some_iff.1 hwh).1
  obtain ⟨gw, cw, hvw, w0, wf⟩ := where_at h.2.2.2.2 hwh
  subst hvw
  have HWH := As.mk hwh
  have HM := As.mk h
  have HTX := As.mk htx
  have HL := As.mk hl
  have HBP := As.mk hbp
  have HBARE := As.mk (fun W => r6bare_in x W)
  have HTEXT := As.mk (fun W => r6text_in x W hx)
  clear h hwh htx hl hn hbp
  go_enter Tryz.func194, Tryz.ntmps194
  go_wp2_with fail
  refine (HBARE.out _).mono ?_
  rintro e w1 ⟨rfl, hB⟩
  have HB1 := As.mk hB
  clear hB f0 f1 f2 f3 f4 f5 f6 f7 f8 f9 f10 f11 f12
  obtain ⟨W2, hW2⟩ : ∃ W2, W2 = w1.alloc (.cells #[.int .i64 1, .int .i64 0, .int .i64 0, .int .i64 x, .string ⟨#[120]⟩, .bool false, .slice none 0 0, .slice none 0 0, .slice none 0 0, .slice none 0 0, .slice none 0 0, .slice none 0 0, .slice none 0 0] 28) := ⟨_, rfl⟩
  have HNK := As.mk (node_keep 1 0 0 x ⟨#[120]⟩ false none none none none none none none 0 0 0 0 0 0 0 0 0 0 0 0 0 0 w1 W2 28 hW2)
  have HB2 : As (Below w.heap.size w W2) := ⟨HB1.out.trans ((hW2 ▸ (Ext.alloc (Ext.refl w1) _).below : Below w1.heap.size w1 W2).mono HB1.out.size)⟩
  go_wp2_with (first | (go_at_call 188; refine (r6One_any _ _).mono ?_; rintro e w' ⟨rfl, rfl⟩) | (go_at_call 189; refine (r6Two_any _ _).mono ?_; rintro e w' ⟨rfl, rfl⟩))
  rw [← hW2]
  clear hW2
  obtain ⟨n0, n1, n2, n3, n4, n5, n6, n7, n8, n9, n10, n11, n12⟩ := HNK.out W2 (Below.refl _ _)
  go_loopg [8] 0 (fun g s8 wr => s8 = .int .i64 0 ∧ wr = W2)
  case atStart => exact ⟨rfl, rfl⟩
  case round =>
    obtain ⟨rfl, rfl⟩ := hrel
    generalize wr = W2 at *
    go_wp2_with fail
    refine (HTEXT.out W2).mono ?_
    rintro e w3 ⟨⟨s, rfl, hbs⟩, hB⟩
    have HB23 := As.mk hB
    have HB3 := As.mk (HB2.out.trans (hB.mono HB2.out.size))
    have HS := As.mk hbs
    have HM3 := As.mk (HM.out.ext HB3.out)
    obtain ⟨At, ct, hvt, _⟩ := HM.out.2.2.2.1.shape
    subst hvt
    obtain ⟨a0, a1, a2, af⟩ := HM3.out.cells
    have hl1 := HL.out.1
    have hl2 := HL.out.2
    clear n0 n1 n2 n3 n4 n5 n6 n7 n8 n9 n10 n11 n12
    clear hB hbs m0 m1 m2 mf w0 wf
    go_wp2_with fail
    go_loopg [10, 11] texts.length (fun g s10 s11 wr => ∃ (k : Nat) (q : Int), k ≤ texts.length ∧ texts.length - k ≤ g ∧ s10 = .int .i64 q ∧ s11 = .int .i64 k ∧ -1 ≤ q ∧ q < k ∧ wr = w3)
    case atStart => exact ⟨0, -1, by omega, by omega, rfl, rfl, by omega, by omega, rfl⟩
    case round =>
      obtain ⟨k, q, hk, hg, rfl, rfl, hq1, hq2, rfl⟩ := hrel
      by_cases hlt : k < texts.length
      · have hltz : (k : Int) < (texts.length : Int) := by omega
        obtain ⟨t, ht⟩ : ∃ t, texts[k]? = some t := ⟨_, List.getElem?_eq_getElem hlt⟩
        obtain ⟨gt, ct', hvt, t0⟩ := text_at HM3.out.2.2.2.1 ht
        injection hvt with hA _ hcc
        subst hA
        clear ht hcc
        go_wp2_with fail
        all_goals
          go_roundg (texts.length - (k + 1))
          case measure => omega
          case rel => first | exact ⟨k + 1, k, by omega, by omega, rfl, by go_num, by omega, by omega, rfl⟩ | exact ⟨k + 1, q, by omega, by omega, rfl, by go_num, by omega, by omega, rfl⟩
      · have hltz : ¬ (k : Int) < (texts.length : Int) := by omega
        obtain rfl : k = texts.length := by omega
        obtain ⟨n0, n1, n2, n3, n4, n5, n6, n7, n8, n9, n10, n11, n12⟩ := HNK.out _ HB23.out
        by_cases hqz : q < 0
        · obtain ⟨Ao, co, hvo, _⟩ := HM.out.2.2.1.shape
          subst hvo
          have hol : (outs.length : Int) ≤ 100 := by omega
          have HMD := As.mk (HM3.out.ext (Ext.drew (Ext.refl wr)).below)
          have HLO : As (outs.length < 4294967296) := ⟨by omega⟩
          have HNZ : As (n ≤ wr.drew.heap.size) := ⟨Nat.le_trans HM3.out.1 (Nat.le_of_lt (Array.getElem?_eq_some_iff.1 HM3.out.2.1).1)⟩
          have a0d := fun o => Ext.cell (Ext.alloc (Ext.refl wr) o) a0
          go_wp2_with fail
          go_region_law (refine OwnL.append_step_at (W := wr.drew) n rfl (.tmp 101) (.tmp 103) 55 28 _ 13 224 rfl Tryz.underlying55 info_node rfl (by decide) (by decide) (.slice Ao outs.length co) outs (inNode ⟨#[120]⟩ x) (inNode ⟨#[120]⟩ x) (by go_simp) (by go_simp) (E := EN) rfl rfl (by simp [inNode, Value.oneCell']) HMD.out.2.2.1 (Below.refl n wr.drew) HNZ.out HLO.out rfl ?_; intro v3 w4 hown3 hb3 hg3 hat3; obtain ⟨oq, hoq⟩ : ∃ oq, oq = outs ++ [inNode ⟨#[120]⟩ x] := ⟨_, rfl⟩; rw [← hoq] at hown3; have HOQ := As.mk hoq; clear hoq; obtain ⟨A3, c3, rfl, _⟩ := hown3.shape; obtain ⟨hmb4, hM4, hW4, hP4⟩ := HMD.out.pushO hown3 hg3 hat3; obtain ⟨b0, b1, b2, _⟩ := cells3 hmb4; have bf := fun j => Lib.frozen_of_heap hmb4 j; have HM4 := As.mk hM4; have HW4 := As.mk hW4; have HP4 := As.mk hP4; have HMB4 := As.mk hmb4; clear hown3 hb3 hg3 hat3 hM4 hW4 hP4 hmb4)
          all_goals
            clear n0 n1 n2 n3 n4 n5 n6 n7 n8 n9 n10 n11 n12 a0 a1 a2 af a0d b0 b1 b2 bf
            have HW5 := As.mk ((Wrote.of HB3.out).trans' (((Wrote.of (Ext.drew (Ext.refl wr)).below).trans HW4.out)) (fun k hk => .inl hk) : Wrote (MkP mb (.slice Ao outs.length co) (.slice At texts.length ct) (.slice (some ⟨gw, 0, none⟩) wh.length cw)) w _)
            have HP5 : As (∀ k, MkP mb (.slice A3 oq.length c3) (.slice At texts.length ct) (.slice (some ⟨gw, 0, none⟩) wh.length cw) k → MkP mb (.slice Ao outs.length co) (.slice At texts.length ct) (.slice (some ⟨gw, 0, none⟩) wh.length cw) k ∨ w.heap.size ≤ k) := ⟨fun k hk => (HP4.out k hk).imp id (fun h => Nat.le_trans HB3.out.size h)⟩
            clear HW4 HP4 HMB4
            generalize w4.setCell ⟨mb, 0, none⟩ (.slice A3 oq.length c3) = w5 at *
            obtain ⟨b0, b1, b2, bf⟩ := HM4.out.cells
            have HLT : As (texts.length < 4294967296) := ⟨by omega⟩
            have HN5 : As (n ≤ w5.heap.size) := ⟨Nat.le_trans HM4.out.1 (Nat.le_of_lt (Array.getElem?_eq_some_iff.1 HM4.out.2.1).1)⟩
            go_wp2_with (at_builtin; refine OwnL.append (w0 := w5) (W := w5) n rfl (.tmp 111) (.tmp 113) 264 9 _ 1 16 rfl Tryz.underlying264 info_str rfl (by decide) (by decide) (.slice At texts.length ct) texts s [.string s] rfl rfl (E := ES1) rfl rfl (by simp [Value.oneCell']) HM4.out.2.2.2.1 (Below.refl n w5) HN5.out HLT.out rfl ?_; intro v6 w6 hown6 hb6 hg6 hat6; obtain ⟨tq, htq⟩ : ∃ tq, tq = texts ++ [s] := ⟨_, rfl⟩; rw [← htq] at hown6; have HTQ := As.mk htq; clear htq; obtain ⟨A6, c6, rfl, _⟩ := hown6.shape; obtain ⟨hmb6, hM6, hW6, hP6⟩ := HM4.out.pushT hown6 hg6 hat6; obtain ⟨x0, x1, x2, _⟩ := cells3 hmb6; have xf := fun j => Lib.frozen_of_heap hmb6 j; obtain ⟨y0, y1, y2, yf⟩ := hM6.cells; obtain ⟨g', c', hvw', z0, zf⟩ := where_at hM6.2.2.2.2 HWH.out; injection hvw' with hA _ hcc; injection hA with hA; injection hA with hA _ _; subst hA hcc; have HM6 := As.mk hM6; have HW6 := As.mk hW6; have HP6 := As.mk hP6; clear hown6 hb6 hg6 hat6 hM6 hW6 hP6 hmb6)
            go_ret
            have hqi : i64 (outs.length : Int) := by unfold i64; omega
            refine ⟨_, _, _, oq, tq, _, rfl, hqi, by omega, HM6.out.setW hwl hqi, ((HW5.out.trans' HW6.out HP5.out).set (p := ⟨gw, i, none⟩) (.inr (.inr (.inr rfl))) _), fun k hk => ?_, by rw [HOQ.out]; simp, by rw [HTQ.out]; simp, fun u hu => ?_⟩
            · rcases HP6.out k hk with h | h
              · exact HP5.out k h
              · exact .inr (Nat.le_trans HW5.out.size h)
            · rw [HTQ.out] at hu
              rcases List.mem_append.1 hu with hu | hu
              · exact HTX.out u hu
              · rw [List.mem_singleton.1 hu]; exact HS.out
        · obtain ⟨g', c', hvw', z0, zf⟩ := where_at HM3.out.2.2.2.2 HWH.out
          injection hvw' with hA _ hcc
          injection hA with hA
          injection hA with hA _ _
          subst hA hcc
          clear n0 n1 n2 n3 n4 n5 n6 n7 n8 n9 n10 n11 n12
          have hqi : i64 q := by unfold i64; omega
          have HQI := As.mk hqi
          go_wp2_with fail
          go_ret
          exact ⟨_, _, _, outs, texts, q, rfl, HQI.out, by omega, HM3.out.setW hwl HQI.out, (Wrote.of HB3.out).set (p := ⟨gw, i, none⟩) (.inr (.inr (.inr rfl))) _, fun k hk => .inl hk, Nat.le_succ _, Nat.le_succ _, HTX.out⟩
end Go.Proofs.YtflckpfpgpfjlaaGreatDoor
end
section
namespace Go.Proofs.YtflckpfpgpfjlaaGreatDoor
open Go.RowKit Go.Sort
theorem begins_ne {s : ByteArray} (h1 : Begins [49, 32] s) (h2 : Begins [53] s) : False := by
  obtain ⟨t, rfl⟩ := h1
  obtain ⟨u, hu⟩ := h2
  have := congrArg (fun b : ByteArray => b.data.toList.head?) hu
  simp at this
theorem MkV.poke {n mb : Nat} {vo vt vw u : Value} {w : World} {outs : List (List Value)} {texts : List ByteArray} {wh : List Int} {k j : Nat} (h : MkV n mb vo vt vw w outs texts wh) (hk : ¬ MkP mb vo vt vw k) : MkV n mb vo vt vw (w.setCell ⟨k, j, none⟩ u) outs texts wh := by
  obtain ⟨h1, h2, h3, h4, h5⟩ := h
  have hne : ∀ g, MkP mb vo vt vw g → g ≠ k := fun g hg e => hk (e ▸ hg)
  refine ⟨h1, ?_, h3.held fun g c hg hh => ?_, h4.held fun g c hg hh => ?_, h5.held fun g c hg hh => ?_⟩
  · rw [heap_setCell_other _ ⟨k, j, none⟩ mb u (hne mb (.inl rfl))]; exact h2
  · rw [heap_setCell_other _ ⟨k, j, none⟩ g u (hne g (.inr (.inl hg)))]; exact hh
  · rw [heap_setCell_other _ ⟨k, j, none⟩ g u (hne g (.inr (.inr (.inl hg))))]; exact hh
  · rw [heap_setCell_other _ ⟨k, j, none⟩ g u (hne g (.inr (.inr (.inr hg))))]; exact hh
def KB (lo hi : Nat) : Blk := fun k t => lo ≤ k ∧ k < hi ∧ t = 3
theorem kb_of {w : World} {lo : Nat} {v : Value} {cols : List Int} (h : RdI w (Fresh lo [3]) v cols) : RdI w (KB lo w.heap.size) v cols := RdI.mv h fun k t cells fr ho hh => by
  have e : t = 3 := by have := ho.1.2; simpa using this
  subst e
  refine ⟨⟨⟨ho.1.1, (Array.getElem?_eq_some_iff.1 hh).1, rfl⟩, ho.2.imp id fun h => ?_⟩, hh⟩
  have h3 := h.2
  exact absurd h3 (by decide)
theorem RdI.wrote' {w w' : World} {lo hi : Nat} {v : Value} {cols : List Int} {P : Nat → Prop} (h : RdI w (KB lo hi) v cols) (hw : Wrote P w w') (hp : ∀ j, lo ≤ j → j < hi → ¬ P j) : RdI w' (KB lo hi) v cols := RdI.mv h fun k t cells fr ho hh => ⟨ho, (hw.block k (Array.getElem?_eq_some_iff.1 hh).1 (hp k ho.1.1 ho.1.2.1)).trans hh⟩
theorem RdI.poke {w : World} {lo hi k j : Nat} {u v : Value} {cols : List Int} (h : RdI w (KB lo hi) v cols) (hk : lo ≤ k → k < hi → False) : RdI (w.setCell ⟨k, j, none⟩ u) (KB lo hi) v cols := RdI.mv h fun i t cells fr ho hh => ⟨ho, by
  rw [heap_setCell_other _ ⟨k, j, none⟩ i u (by rintro rfl; exact hk ho.1.1 ho.1.2.1)]; exact hh⟩
def TopPost (n mb : Nat) (cols others : List Int) (w : World) (e : Ending) (w' : World) : Prop := (∃ q, e = .returned (.int .i64 q)) ∧ Below n w w' ∧ ∃ (vo vt vw : Value) (outs : List (List Value)) (texts : List ByteArray) (wh : List Int) (at0 at1 : Int) (B1 B2 : Option Addr) (d1 d2 : Nat), MkV n mb vo vt vw w' (outs ++ [[.int .i64 5, .int .i64 at0, .int .i64 at1, .int .i64 0, .string ⟨#[]⟩, .bool false, .slice B1 cols.length d1, .slice B2 others.length d2, .slice none 0 0, .slice none 0 0, .slice none 0 0, .slice none 0 0, .slice none 0 0]]) texts wh ∧ ∃ lo hi, RdI w' (KB lo hi) (.slice B1 cols.length d1) cols ∧ RdI w' (KB lo hi) (.slice B2 others.length d2) others
set_option maxRecDepth 100000 in
set_option maxHeartbeats 4000000 in
theorem r6visit_join (n mb bp op cc : Nat) (a b k : Int) (name : ByteArray) (anti : Bool) (A1 A2 A3 A4 A5 A6 A7 : Option Addr) (c1 c2 l3 c3 l4 c4 l5 c5 l6 c6 l7 c7 : Nat) (cols others : List Int) (vo vt vw : Value) (w : World)
    (hn0 : NdC w bp (op + 0 * 13) (inNode ⟨#[120]⟩ a)) (hn1 : NdC w bp (op + 1 * 13) (inNode ⟨#[120]⟩ b)) (hn : NdC w bp (op + 2 * 13) [.int .i64 5, .int .i64 0, .int .i64 1, .int .i64 k, .string name, .bool anti, .slice A1 cols.length c1, .slice A2 others.length c2, .slice A3 l3 c3, .slice A4 l4 c4, .slice A5 l5 c5, .slice A6 l6 c6, .slice A7 l7 c7])
    (h1 : RdI w AnyB (.slice A1 cols.length c1) cols) (h2 : RdI w AnyB (.slice A2 others.length c2) others) (ha : i64 a) (hb : i64 b) (hbp : bp < n) (h : MkV n mb vo vt vw w [] [] [-1, -1, -1]) :
    Calls Tryz.prog 194 #[.pointer (some ⟨mb, 0, none⟩), .slice (some ⟨bp, op, none⟩) 3 cc, .int .i64 2] w (TopPost n mb cols others w) := by
  have mixed := mixed
  have f0 := hn 0 _ rfl; have f1 := hn 1 _ rfl; have f2 := hn 2 _ rfl; have f3 := hn 3 _ rfl; have f4 := hn 4 _ rfl; have f5 := hn 5 _ rfl; have f6 := hn 6 _ rfl; have f7 := hn 7 _ rfl; have f8 := hn 8 _ rfl; have f9 := hn 9 _ rfl; have f10 := hn 10 _ rfl; have f11 := hn 11 _ rfl; have f12 := hn 12 _ rfl
  simp only [Nat.add_zero, Nat.reduceMul] at f0 f1 f2 f3 f4 f5 f6 f7 f8 f9 f10 f11 f12
  obtain ⟨m0, m1, m2, mf⟩ := h.cells
  obtain ⟨gw0, cw0, hvw, w0, wf⟩ := where_at h.2.2.2.2 (i := 2) rfl
  subst hvw
  have HM := As.mk h
  have HBP := As.mk hbp
  have HBARE := As.mk (r6bare_join 0 1 k name anti A1 A2 A3 A4 A5 A6 A7 c1 c2 l3 c3 l4 c4 l5 c5 l6 c6 l7 c7 cols others w h1 h2)
  have HN0 := As.mk hn0
  have HN1 := As.mk hn1
  have hnw : n ≤ w.heap.size := Nat.le_trans h.1 (Nat.le_of_lt (Array.getElem?_eq_some_iff.1 h.2.1).1)
  have HNW := As.mk hnw
  have hbpw : bp < w.heap.size := Nat.lt_of_lt_of_le hbp hnw
  clear hn hn0 hn1 h hbp h1 h2
  go_enter Tryz.func194, Tryz.ntmps194
  go_wp2_with fail
  refine HBARE.out.mono ?_
  rintro e w1 ⟨⟨B1, B2, d1, d2, rfl, hr1, hr2⟩, hB⟩
  have hw1 : w.heap.size ≤ w1.heap.size := hB.size
  obtain ⟨W2, hW2⟩ : ∃ W2, W2 = w1.alloc (.cells #[.int .i64 5, .int .i64 0, .int .i64 1, .int .i64 0, .string ⟨#[]⟩, .bool false, .slice B1 cols.length d1, .slice B2 others.length d2, .slice none 0 0, .slice none 0 0, .slice none 0 0, .slice none 0 0, .slice none 0 0] 28) := ⟨_, rfl⟩
  have hE2 : Ext w1 W2 := hW2 ▸ Ext.alloc (Ext.refl w1) _
  have hs2 : W2.heap.size = w1.heap.size + 1 := by rw [hW2]; simp
  have hN2 : W2.heap[w1.heap.size]? = some (.cells #[.int .i64 5, .int .i64 0, .int .i64 1, .int .i64 0, .string ⟨#[]⟩, .bool false, .slice B1 cols.length d1, .slice B2 others.length d2, .slice none 0 0, .slice none 0 0, .slice none 0 0, .slice none 0 0, .slice none 0 0] 28 (0, 0)) := by rw [hW2]; exact heap_alloc_new w1 _
  have HB2 := As.mk (hB.trans (hE2.below.mono hw1))
  have HC2 := As.mk ((kb_of hr1).ext hE2.below)
  have HO2 := As.mk ((kb_of hr2).ext hE2.below)
  have HM2 := As.mk (HM.out.ext HB2.out)
  have hge : ∀ j, MkP mb vo vt (.slice (some ⟨gw0, 0, none⟩) [-1, -1, -1].length cw0) j → j < w.heap.size := fun j hj => (HM.out.ge hj).2
  have HGE := As.mk hge
  have hV0 := r6visit_in n mb bp op cc 3 0 a vo vt (.slice (some ⟨gw0, 0, none⟩) [-1, -1, -1].length cw0) [] [] [-1, -1, -1] W2 (HN0.out.mv fun j => HB2.out.cell (p := ⟨bp, j, none⟩) hbpw) HBP.out (by decide) (by decide) ha HM2.out rfl (by simp) (by simp)
  have HV0 : As (Calls Tryz.prog 194 #[.pointer (some ⟨mb, 0, none⟩), .slice (some ⟨bp, op, none⟩) 3 cc, .int .i64 0] W2 _) := As.mk hV0
  obtain ⟨p0, p1, p2, p3, p4, p5, p6, p7, p8, p9, p10, p11, p12⟩ := cells13 hN2
  have HN2 := As.mk hN2
  have HS2 := As.mk hs2
  have HW1 := As.mk hw1
  clear hB hr1 hr2 hV0 hN2 hs2 hw1 hge f0 f1 f2 f3 f4 f5 f6 f7 f8 f9 f10 f11 f12 m0 m1 m2 mf w0 wf
  go_wp2_with (first | (go_at_call 188; refine (r6One_any _ _).mono ?_; rintro e w' ⟨rfl, rfl⟩) | (go_at_call 189; refine (r6Two_any _ _).mono ?_; rintro e w' ⟨rfl, rfl⟩))
  rw [← hW2]
  clear hW2
  refine HV0.out.mono ?_
  rintro e w3 ⟨vo3, vt3, vw3, outs3, texts3, at0, rfl, hat0, hat0', hM3, hW3, hP3, hl31, hl32, hT3⟩
  have hw1 := HW1.out
  have hs2 := HS2.out
  have hkn : ¬ MkP mb vo vt (.slice (some ⟨gw0, 0, none⟩) [-1, -1, -1].length cw0) w1.heap.size := fun hj => by have := HGE.out _ hj; omega
  have hkn3 : ¬ MkP mb vo3 vt3 vw3 w1.heap.size := fun hj => (hP3 _ hj).elim hkn fun h => by omega
  have hN3 := (hW3.block w1.heap.size (by omega) hkn).trans HN2.out
  have hbp3 : ∀ j, w3.cell? ⟨bp, j, none⟩ = w.cell? ⟨bp, j, none⟩ := fun j => (World.cell?_of_block (a := ⟨bp, j, none⟩) (hW3.block bp (Nat.lt_of_lt_of_le hbpw HB2.out.size) fun hj => by have := (HM2.out.ge hj).1; have := HBP.out; omega)).trans (HB2.out.cell (p := ⟨bp, j, none⟩) hbpw)
  obtain ⟨w3s, hw3s⟩ : ∃ w3s, w3s = w3.setCell ⟨w1.heap.size, 1, none⟩ (.int .i64 at0) := ⟨_, rfl⟩
  have hN3s : w3s.heap[w1.heap.size]? = some (.cells #[.int .i64 5, .int .i64 at0, .int .i64 1, .int .i64 0, .string ⟨#[]⟩, .bool false, .slice B1 cols.length d1, .slice B2 others.length d2, .slice none 0 0, .slice none 0 0, .slice none 0 0, .slice none 0 0, .slice none 0 0] 28 (0, 0)) := by rw [hw3s]; exact heap_setCell_same _ _ 1 _ 28 _ hN3
  have hM3s : MkV n mb vo3 vt3 vw3 w3s outs3 texts3 ([-1, -1, -1].set 0 at0) := by rw [hw3s]; exact hM3.poke hkn3
  have hbp3s : ∀ j, w3s.cell? ⟨bp, j, none⟩ = w.cell? ⟨bp, j, none⟩ := fun j => by rw [hw3s, World.cell?_of_block (heap_setCell_other _ ⟨w1.heap.size, 1, none⟩ bp _ (by show bp ≠ w1.heap.size; omega))]; exact hbp3 j
  have HC3 : As (RdI w3s (KB w.heap.size w1.heap.size) (.slice B1 cols.length d1) cols) := ⟨by rw [hw3s]; exact (HC2.out.wrote' hW3 fun j h1 h2 hj => by have := HGE.out j hj; omega).poke fun h1 h2 => by omega⟩
  have HO3 : As (RdI w3s (KB w.heap.size w1.heap.size) (.slice B2 others.length d2) others) := ⟨by rw [hw3s]; exact (HO2.out.wrote' hW3 fun j h1 h2 hj => by have := HGE.out j hj; omega).poke fun h1 h2 => by omega⟩
  have HWB3 : As (Below n w w3s) := ⟨by rw [hw3s]; exact below_set' ((HB2.out.mono HNW.out).trans (hW3.below (B := n) (fun j hj => (HM2.out.ge hj).1) (Nat.le_trans HNW.out HB2.out.size))) (Nat.le_trans HNW.out hw1)⟩
  have hz3 : W2.heap.size ≤ w3s.heap.size := by rw [hw3s]; simpa using hW3.size
  have hV1 := r6visit_in n mb bp op cc 3 1 b vo3 vt3 vw3 outs3 texts3 ([-1, -1, -1].set 0 at0) w3s (HN1.out.mv hbp3s) HBP.out (by decide) (by decide) hb hM3s rfl hT3 ⟨by simp at hl31; omega, by simp at hl32; omega⟩
  have HV1 : As (Calls Tryz.prog 194 #[.pointer (some ⟨mb, 0, none⟩), .slice (some ⟨bp, op, none⟩) 3 cc, .int .i64 1] w3s _) := As.mk hV1
  obtain ⟨q0, q1, q2, q3, q4, q5, q6, q7, q8, q9, q10, q11, q12⟩ := cells13 hN3
  have qf := Lib.frozen_of_heap hN3 1
  obtain ⟨r0, r1, r2, _⟩ := cells13 hN3s
  have HKN3 := As.mk hkn3
  have HP3 := As.mk hP3
  have HM3S := As.mk hM3s
  have HN3S := As.mk hN3s
  have HBP3 := As.mk hbp3s
  have HL3 : As (outs3.length ≤ 1 ∧ texts3.length ≤ 1) := ⟨by simpa using hl31, by simpa using hl32⟩
  have HAT0 := As.mk hat0
  have HZ3 := As.mk hz3
  have HFR3 : As (∀ j, w.heap.size ≤ j → j < w1.heap.size → ¬ MkP mb vo3 vt3 vw3 j) := ⟨fun j h1 h2 hj => (hP3 j hj).elim (fun h => by have := HGE.out j h; omega) fun h => by omega⟩
  rw [hw3s] at r0 r1 r2 HV1
  have HWS3 := As.mk hw3s
  clear hM3 hW3 hP3 hl31 hl32 hT3 hkn hkn3 hN3 hbp3 hN3s hM3s hbp3s hz3 hV1 hat0 hat0' hw3s p0 p1 p2 p3 p4 p5 p6 p7 p8 p9 p10 p11 p12 hw1 hs2
  go_wp2_with (first | (go_at_call 188; refine (r6One_any _ _).mono ?_; rintro e w' ⟨rfl, rfl⟩) | (go_at_call 189; refine (r6Two_any _ _).mono ?_; rintro e w' ⟨rfl, rfl⟩))
  refine HV1.out.mono ?_
  rw [← HWS3.out]
  rintro e w5 ⟨vo, vt, vw, outs, texts, at1, rfl, hat1, hat1', hM5, hW5, hP5, hl51, hl52, hT5⟩
  have hw1 := HW1.out
  have hs2 := HS2.out
  have hz3 := HZ3.out
  have hkn5 : ¬ MkP mb vo vt vw w1.heap.size := fun hj => (hP5 _ hj).elim HKN3.out fun h => by omega
  have hN5 := (hW5.block w1.heap.size (by omega) HKN3.out).trans HN3S.out
  obtain ⟨w5s, hw5s⟩ : ∃ w5s, w5s = w5.setCell ⟨w1.heap.size, 2, none⟩ (.int .i64 at1) := ⟨_, rfl⟩
  have hN5B : w5s.heap[w1.heap.size]? = some (.cells #[.int .i64 5, .int .i64 at0, .int .i64 at1, .int .i64 0, .string ⟨#[]⟩, .bool false, .slice B1 cols.length d1, .slice B2 others.length d2, .slice none 0 0, .slice none 0 0, .slice none 0 0, .slice none 0 0, .slice none 0 0] 28 (0, 0)) := by rw [hw5s]; exact heap_setCell_same _ _ 2 _ 28 _ hN5
  obtain ⟨wh, hwh⟩ : ∃ wh, wh = (([-1, -1, -1] : List Int).set 0 at0).set 1 at1 := ⟨_, rfl⟩
  rw [← hwh] at hM5
  have hM5s : MkV n mb vo vt vw w5s outs texts wh := by rw [hw5s]; exact hM5.poke hkn5
  have HWH : As (wh[2]? = some (-1)) := ⟨by rw [hwh]; rfl⟩
  have hwl : 2 < wh.length := by rw [hwh]; simp
  have HC5 : As (RdI w5s (KB w.heap.size w1.heap.size) (.slice B1 cols.length d1) cols) := ⟨by rw [hw5s]; exact (HC3.out.wrote' hW5 HFR3.out).poke fun h1 h2 => by omega⟩
  have HO5 : As (RdI w5s (KB w.heap.size w1.heap.size) (.slice B2 others.length d2) others) := ⟨by rw [hw5s]; exact (HO3.out.wrote' hW5 HFR3.out).poke fun h1 h2 => by omega⟩
  have hn3 : n ≤ w3s.heap.size := Nat.le_trans HNW.out (by omega)
  have HWS : As (Below n w w5s) := ⟨by rw [hw5s]; exact below_set' (HWB3.out.trans (hW5.below (B := n) (fun j hj => (HM3S.out.ge hj).1) hn3)) (Nat.le_trans HNW.out hw1)⟩
  have hz5 : w3s.heap.size ≤ w5s.heap.size := by rw [hw5s]; simpa using hW5.size
  have HNS : As (n ≤ w5s.heap.size) := ⟨by omega⟩
  have HHI5 : As (w1.heap.size ≤ w5s.heap.size) := ⟨by omega⟩
  have HFR : As (∀ j, w.heap.size ≤ j → j < w1.heap.size → ¬ MkP mb vo vt vw j) := ⟨fun j h1 h2 hj => (hP5 j hj).elim (HFR3.out j h1 h2) fun h => by omega⟩
  have HTX := As.mk hT5
  have HL1 : As (outs.length ≤ 100) := ⟨by have := HL3.out.1; omega⟩
  have HL2 : As (texts.length ≤ 100) := ⟨by have := HL3.out.2; omega⟩
  have HTEXT := As.mk (r6text_join at0 at1 B1 B2 d1 d2 cols others w5s HAT0.out hat1 (HC5.out.mv (Stays.any _ _)) (HO5.out.mv (Stays.any _ _)))
  obtain ⟨q0, q1, q2, q3, q4, q5, q6, q7, q8, q9, q10, q11, q12⟩ := cells13 hN5
  have qf := Lib.frozen_of_heap hN5 2
  obtain ⟨n0, n1, n2, n3, n4, n5, n6, n7, n8, n9, n10, n11, n12⟩ := cells13 hN5B
  have HN5B := As.mk hN5B
  have HMS := As.mk hM5s
  obtain ⟨gw, cw, hvw, _, _⟩ := where_at hM5s.2.2.2.2 HWH.out
  subst hvw
  have HW5S := As.mk hw5s
  have n8' := n8
  rw [hw5s] at n8'
  clear hM5 hW5 hP5 hl51 hl52 hT5 hkn5 hN5 hwh hM5s hn3 hz5 hN5B hat1 hat1' hw5s r0 r1 r2 hw1 hs2 hz3 HM HM2 HM3S HC3 HO3 HC2 HO2 HBARE HV0 HV1 HN2 HN3S
  generalize w.heap.size = lo at *
  generalize w1.heap.size = hi at *
  go_wp2_with fail
  rw [← HW5S.out]
  clear HW5S n8'
  go_loopg [8] 0 (fun g s8 wr => s8 = .int .i64 0 ∧ wr = w5s)
  case atStart => exact ⟨rfl, rfl⟩
  case round =>
    obtain ⟨rfl, rfl⟩ := hrel
    generalize wr = w5s at *
    go_wp2_with fail
    refine HTEXT.out.mono ?_
    rintro e w3 ⟨⟨s, rfl, hbs⟩, hB⟩
    have HB23 := As.mk hB
    have HW3 := As.mk (HWS.out.trans (hB.mono HNS.out))
    have HHI := As.mk (Nat.le_trans HHI5.out hB.size)
    have HS := As.mk hbs
    have HM3 := As.mk (HMS.out.ext hB)
    obtain ⟨At, ct, hvt, _⟩ := HM3.out.2.2.2.1.shape
    subst hvt
    obtain ⟨a0, a1, a2, af⟩ := HM3.out.cells
    have hl1 := HL1.out
    have hl2 := HL2.out
    clear n0 n1 n2 n3 n4 n5 n6 n7 n8 n9 n10 n11 n12
    have HC3 := As.mk (HC5.out.ext hB)
    have HO3 := As.mk (HO5.out.ext hB)
    clear hB hbs
    go_wp2_with fail
    go_loopg [10, 11] texts.length (fun g s10 s11 wr => ∃ (k : Nat), k ≤ texts.length ∧ texts.length - k ≤ g ∧ s10 = .int .i64 (-1) ∧ s11 = .int .i64 k ∧ wr = w3)
    case atStart => exact ⟨0, by omega, by omega, rfl, rfl, rfl⟩
    case round =>
      obtain ⟨k, hk, hg, rfl, rfl, rfl⟩ := hrel
      by_cases hlt : k < texts.length
      · have hltz : (k : Int) < (texts.length : Int) := by omega
        obtain ⟨t, ht⟩ : ∃ t, texts[k]? = some t := ⟨_, List.getElem?_eq_getElem hlt⟩
        obtain ⟨gt, ct', hvt, t0⟩ := text_at HM3.out.2.2.2.1 ht
        injection hvt with hA _ hcc
        subst hA
        have hts : (t.toList == s.toList) = false := beq_eq_false_iff_ne.2 fun h => begins_ne (HTX.out t (List.mem_of_getElem? ht)) (bytes_eq h ▸ HS.out)
        clear ht hcc
        go_wp2_with fail
        go_roundg (texts.length - (k + 1))
        case measure => omega
        case rel => exact ⟨k + 1, by omega, by omega, rfl, by go_num, rfl⟩
      · have hltz : ¬ (k : Int) < (texts.length : Int) := by omega
        obtain rfl : k = texts.length := by omega
        obtain ⟨n0, n1, n2, n3, n4, n5, n6, n7, n8, n9, n10, n11, n12⟩ := cells13 ((HB23.out.block _ (Array.getElem?_eq_some_iff.1 HN5B.out).1).trans HN5B.out)
        · obtain ⟨Ao, co, hvo, _⟩ := HM3.out.2.2.1.shape
          subst hvo
          have hol : (outs.length : Int) ≤ 100 := by omega
          have HMD := As.mk (HM3.out.ext (Ext.drew (Ext.refl wr)).below)
          have HLO : As (outs.length < 4294967296) := ⟨by omega⟩
          have HNZ : As (n ≤ wr.drew.heap.size) := ⟨Nat.le_trans HM3.out.1 (Nat.le_of_lt (Array.getElem?_eq_some_iff.1 HM3.out.2.1).1)⟩
          have a0d := fun o => Ext.cell (Ext.alloc (Ext.refl wr) o) a0
          go_wp2_with fail
          go_region_law (refine OwnL.append_step_at (W := wr.drew) n rfl (.tmp 101) (.tmp 103) 55 28 _ 13 224 rfl Tryz.underlying55 info_node rfl (by decide) (by decide) (.slice Ao outs.length co) outs ([.int .i64 5, .int .i64 at0, .int .i64 at1, .int .i64 0, .string ⟨#[]⟩, .bool false, .slice B1 cols.length d1, .slice B2 others.length d2, .slice none 0 0, .slice none 0 0, .slice none 0 0, .slice none 0 0, .slice none 0 0]) ([.int .i64 5, .int .i64 at0, .int .i64 at1, .int .i64 0, .string ⟨#[]⟩, .bool false, .slice B1 cols.length d1, .slice B2 others.length d2, .slice none 0 0, .slice none 0 0, .slice none 0 0, .slice none 0 0, .slice none 0 0]) (by go_simp) (by go_simp) (E := EN) rfl rfl (by simp [Value.oneCell']) HMD.out.2.2.1 (Below.refl n wr.drew) HNZ.out HLO.out rfl ?_; intro v3 w4 hown3 hb3 hg3 hat3; obtain ⟨oq, hoq⟩ : ∃ oq, oq = outs ++ [[.int .i64 5, .int .i64 at0, .int .i64 at1, .int .i64 0, .string ⟨#[]⟩, .bool false, .slice B1 cols.length d1, .slice B2 others.length d2, .slice none 0 0, .slice none 0 0, .slice none 0 0, .slice none 0 0, .slice none 0 0]] := ⟨_, rfl⟩; rw [← hoq] at hown3; have HOQ := As.mk hoq; clear hoq; obtain ⟨A3, c3, rfl, _⟩ := hown3.shape; obtain ⟨hmb4, hM4, hW4, hP4⟩ := HMD.out.pushO hown3 hg3 hat3; obtain ⟨b0, b1, b2, _⟩ := cells3 hmb4; have bf := fun j => Lib.frozen_of_heap hmb4 j; have HM4 := As.mk hM4; have HW4 := As.mk hW4; have HP4 := As.mk hP4; have HMB4 := As.mk hmb4; clear hown3 hb3 hg3 hat3 hM4 hW4 hP4 hmb4)
          all_goals
            clear n0 n1 n2 n3 n4 n5 n6 n7 n8 n9 n10 n11 n12 a0 a1 a2 af a0d b0 b1 b2 bf
            have HW5 : As (Below n w (w4.setCell ⟨mb, 0, none⟩ (.slice A3 oq.length c3))) := ⟨HW3.out.trans ((Wrote.of (Ext.drew (Ext.refl wr)).below |>.trans HW4.out).below (B := n) (fun j hj => (HM3.out.ge hj).1) (Nat.le_trans HM3.out.1 (Nat.le_of_lt (Array.getElem?_eq_some_iff.1 HM3.out.2.1).1)))⟩
            have HC5' := As.mk ((HC3.out.ext (Ext.drew (Ext.refl wr)).below).wrote' HW4.out fun j h1 h2 hp => HFR.out j h1 h2 hp)
            have HO5' := As.mk ((HO3.out.ext (Ext.drew (Ext.refl wr)).below).wrote' HW4.out fun j h1 h2 hp => HFR.out j h1 h2 hp)
            have HFR5 : As (∀ j, lo ≤ j → j < hi → ¬ MkP mb (.slice A3 oq.length c3) (.slice At texts.length ct) (.slice (some ⟨gw, 0, none⟩) wh.length cw) j) := ⟨fun j h1 h2 hp => (HP4.out j hp).elim (HFR.out j h1 h2) (fun h => by have h' : wr.heap.size ≤ j := h; have := HHI.out; omega)⟩
            clear HW4 HP4 HMB4 HC3 HO3
            generalize w4.setCell ⟨mb, 0, none⟩ (.slice A3 oq.length c3) = w5 at *
            obtain ⟨b0, b1, b2, bf⟩ := HM4.out.cells
            have HLT : As (texts.length < 4294967296) := ⟨by omega⟩
            have HN5 : As (n ≤ w5.heap.size) := ⟨Nat.le_trans HM4.out.1 (Nat.le_of_lt (Array.getElem?_eq_some_iff.1 HM4.out.2.1).1)⟩
            go_wp2_with (at_builtin; refine OwnL.append (w0 := w5) (W := w5) n rfl (.tmp 111) (.tmp 113) 264 9 _ 1 16 rfl Tryz.underlying264 info_str rfl (by decide) (by decide) (.slice At texts.length ct) texts s [.string s] rfl rfl (E := ES1) rfl rfl (by simp [Value.oneCell']) HM4.out.2.2.2.1 (Below.refl n w5) HN5.out HLT.out rfl ?_; intro v6 w6 hown6 hb6 hg6 hat6; obtain ⟨tq, htq⟩ : ∃ tq, tq = texts ++ [s] := ⟨_, rfl⟩; rw [← htq] at hown6; have HTQ := As.mk htq; clear htq; obtain ⟨A6, c6, rfl, _⟩ := hown6.shape; obtain ⟨hmb6, hM6, hW6, hP6⟩ := HM4.out.pushT hown6 hg6 hat6; obtain ⟨x0, x1, x2, _⟩ := cells3 hmb6; have xf := fun j => Lib.frozen_of_heap hmb6 j; obtain ⟨y0, y1, y2, yf⟩ := hM6.cells; obtain ⟨g', c', hvw', z0, zf⟩ := where_at hM6.2.2.2.2 HWH.out; injection hvw' with hA _ hcc; injection hA with hA; injection hA with hA _ _; subst hA hcc; have HM6 := As.mk hM6; have HW6 := As.mk hW6; have HP6 := As.mk hP6; clear hown6 hb6 hg6 hat6 hM6 hW6 hP6 hmb6)
            go_ret
            have hqi : i64 (outs.length : Int) := by unfold i64; omega
            exact ⟨⟨_, rfl⟩, HW5.out.trans (((HW6.out.below (B := n) (fun j hj => (HM4.out.ge hj).1) HN5.out)).trans (below_set' (Below.refl _ _) (HM6.out.ge (k := gw) (.inr (.inr (.inr rfl)))).1)), _, _, _, outs, tq, _, at0, at1, B1, B2, d1, d2, HOQ.out ▸ HM6.out.setW hwl hqi, lo, hi, (HC5'.out.wrote' HW6.out fun j h1 h2 hp => HFR5.out j h1 h2 hp).poke fun h1 h2 => HFR5.out gw h1 h2 (.inr (.inr (.inr rfl))), (HO5'.out.wrote' HW6.out fun j h1 h2 hp => HFR5.out j h1 h2 hp).poke fun h1 h2 => HFR5.out gw h1 h2 (.inr (.inr (.inr rfl)))⟩
end Go.Proofs.YtflckpfpgpfjlaaGreatDoor
end
section
namespace Go.Proofs.YtflckpfpgpfjlaaGreatDoor
open Go.RowKit Go.Sort
theorem MkV.pushW {n mb : Nat} {vo vt vw v1 : Value} {w w4 : World} {outs : List (List Value)} {texts : List ByteArray} {wh wq : List Int} (h : MkV n mb vo vt vw w outs texts wh) (ho : OwnL 1 EI 3 w4 n v1 wq) (hg : w.grownBy w4 vw.ownBlock) :
    w4.heap[mb]? = some (.cells #[vo, vt, vw] 266 (0, 0)) ∧ MkV n mb vo vt v1 (w4.setCell ⟨mb, 2, none⟩ v1) outs texts wq ∧ Wrote (MkP mb vo vt vw) w (w4.setCell ⟨mb, 2, none⟩ v1) := by
  have hmb := h.keptMb h.2.2.2.2 (by decide) hg
  exact ⟨hmb, ⟨h.1, heap_setCell_same _ mb 2 _ 266 v1 hmb, (h.2.2.1.kept hg (own_ne h.2.2.1 h.2.2.2.2 (by decide))).setOther hmb (by decide), (h.2.2.2.1.kept hg (own_ne h.2.2.2.1 h.2.2.2.2 (by decide))).setOther hmb (by decide), ho.setOther hmb (by decide)⟩, wrote_push hg (fun k hk => .inr (.inr (.inr hk))) (.inl rfl)⟩
def JNd (at0 at1 : Int) (B1 B2 : Option Addr) (d1 d2 : Nat) (cols others : List Int) : List Value := [.int .i64 5, .int .i64 at0, .int .i64 at1, .int .i64 0, .string ⟨#[]⟩, .bool false, .slice B1 cols.length d1, .slice B2 others.length d2, .slice none 0 0, .slice none 0 0, .slice none 0 0, .slice none 0 0, .slice none 0 0]
def NeatPost (cols others : List Int) (w : World) (v : Value) (w' : World) : Prop := Below w.heap.size w w' ∧ ∃ (outs : List (List Value)) (P : Option Addr) (c : Nat) (at0 at1 : Int) (B1 B2 : Option Addr) (d1 d2 : Nat), v = .slice P (outs.length + 1) c ∧ RdL 13 EN w' AnyB v (outs ++ [JNd at0 at1 B1 B2 d1 d2 cols others]) ∧ RdI w' IB (.slice B1 cols.length d1) cols ∧ RdI w' IB (.slice B2 others.length d2) others
theorem kb_ib {w : World} {lo hi : Nat} {v : Value} {cols : List Int} (h : RdI w (KB lo hi) v cols) : RdI w IB v cols := RdI.mv h (Stays.mono fun k t h => ⟨Nat.zero_le _, by rw [h.2.2]; simp⟩)
set_option maxRecDepth 100000 in
set_option maxHeartbeats 2000000 in
theorem r6neat_any (bp op cc : Nat) (a b k : Int) (name : ByteArray) (anti : Bool) (A1 A2 A3 A4 A5 A6 A7 : Option Addr) (c1 c2 l3 c3 l4 c4 l5 c5 l6 c6 l7 c7 : Nat) (cols others : List Int) (w : World)
    (h1 : RdI w AnyB (.slice A1 cols.length c1) cols) (h2 : RdI w AnyB (.slice A2 others.length c2) others) (ha : i64 a) (hb : i64 b)
    (hp : RdN w (.slice (some ⟨bp, op, none⟩) 3 cc) (NPlan a b k name anti A1 A2 A3 A4 A5 A6 A7 cols.length c1 others.length c2 l3 c3 l4 c4 l5 c5 l6 c6 l7 c7)) :
    Calls Tryz.prog 148 #[.slice (some ⟨bp, op, none⟩) 3 cc] w fun e w' => ∃ v, e = .returned v ∧ NeatPost cols others w v w' := by
  have mixed := mixed
  have hnd : ∀ (j : Nat) (cs : List Value), (NPlan a b k name anti A1 A2 A3 A4 A5 A6 A7 cols.length c1 others.length c2 l3 c3 l4 c4 l5 c5 l6 c6 l7 c7)[j]? = some cs → bp < w.heap.size ∧ NdC w bp (op + j * 13) cs := fun j cs hj => by
    obtain ⟨b', o', c', hv, hb', hn⟩ := hp.node hj
    injection hv with hA _ _
    injection hA with hA
    injection hA with hA1 hA2 _
    subst hA1 hA2
    exact ⟨hb', hn⟩
  have hbp := (hnd 0 _ rfl).1
  have HN0 := As.mk (hnd 0 _ rfl).2
  have HN1 := As.mk (hnd 1 _ rfl).2
  have HN2 := As.mk (hnd 2 _ rfl).2
  have HR1 := As.mk h1
  have HR2 := As.mk h2
  have HBP := As.mk hbp
  clear hnd hp h1 h2
  have hh := heap_alloc_new w (.cells #[.slice none 0 0, .slice none 0 0, .slice none 0 0] 266)
  have HM0 : As (MkV w.heap.size w.heap.size (.slice none 0 0) (.slice none 0 0) (.slice none 0 0) (w.alloc (.cells #[.slice none 0 0, .slice none 0 0, .slice none 0 0] 266)) [] [] []) := ⟨Nat.le_refl _, hh, OwnL.nil _ _ _ _ _, OwnL.nil _ _ _ _ _, OwnL.nil _ _ _ _ _⟩
  have HB0 : As (Below w.heap.size w (w.alloc (.cells #[.slice none 0 0, .slice none 0 0, .slice none 0 0] 266))) := ⟨(Ext.alloc (Ext.refl _) _).below⟩
  clear hh
  go_enter Tryz.func148, Tryz.ntmps148
  go_wp2_with fail
  go_loopg [4] 3 (fun g s4 wr => ∃ (i : Nat) (vw : Value), i ≤ 3 ∧ 3 - i ≤ g ∧ s4 = .int .i64 i ∧ As (MkV w.heap.size w.heap.size (.slice none 0 0) (.slice none 0 0) vw wr [] [] (List.replicate i (-1))) ∧ As (Below w.heap.size w wr))
  case atStart => exact ⟨0, _, by omega, by omega, by go_num, HM0, HB0⟩
  case round =>
    obtain ⟨i, vw, hi, hg, rfl, HM, HB⟩ := hrel
    obtain ⟨m0, m1, m2, mf⟩ := HM.out.cells
    by_cases hlt : i < 3
    · have hltz : (i : Int) < 3 := by omega
      obtain ⟨Aw, cw, hvw, _⟩ := HM.out.2.2.2.2.shape
      rw [List.length_replicate] at hvw
      subst hvw
      have HNZ : As (w.heap.size ≤ wr.heap.size) := ⟨HB.out.size⟩
      have HLT : As ((List.replicate i (-1 : Int)).length < 4294967296) := ⟨by simp; omega⟩
      go_wp2_with (at_builtin; refine OwnL.append (w0 := wr) (W := wr) w.heap.size rfl (.tmp 17) (.tmp 18) 22 3 _ 1 8 rfl Tryz.underlying22 info_int' rfl (by decide) (by decide) (.slice Aw i cw) (List.replicate i (-1)) (-1) [.int .i64 (-1)] rfl rfl (E := EI) ⟨rfl, by unfold i64; omega⟩ rfl (by simp [Value.oneCell']) HM.out.2.2.2.2 (Below.refl _ _) HNZ.out HLT.out rfl ?_; intro v6 w6 hown6 hb6 hg6 hat6; obtain ⟨wq, hwq⟩ : ∃ wq : List Int, wq = List.replicate i (-1) ++ [-1] := ⟨_, rfl⟩; rw [← hwq] at hown6; have HWQ := As.mk hwq; clear hwq; obtain ⟨A6, c6, rfl, _⟩ := hown6.shape; obtain ⟨hmb6, hM6, hW6⟩ := HM.out.pushW hown6 hg6; obtain ⟨x0, x1, x2, _⟩ := cells3 hmb6; have xf := fun j => Lib.frozen_of_heap hmb6 j; have HM6 := As.mk hM6; have HW6 := As.mk (HB.out.trans (hW6.below (fun j hj => (HM.out.ge hj).1) HB.out.size)); clear hown6 hb6 hg6 hat6 hM6 hW6 hmb6)
      go_roundg (3 - (i + 1))
      case measure => omega
      case rel => exact ⟨i + 1, _, by omega, by omega, by go_num, ⟨by rw [List.replicate_succ', ← HWQ.out]; exact HM6.out⟩, HW6⟩
    · have hltz : ¬ (i : Int) < 3 := by omega
      obtain rfl : i = 3 := by omega
      have HV := As.mk (r6visit_join w.heap.size w.heap.size bp op cc a b k name anti A1 A2 A3 A4 A5 A6 A7 c1 c2 l3 c3 l4 c4 l5 c5 l6 c6 l7 c7 cols others _ _ vw wr (HN0.out.mv fun j => HB.out.cell (p := ⟨bp, j, none⟩) HBP.out) (HN1.out.mv fun j => HB.out.cell (p := ⟨bp, j, none⟩) HBP.out) (HN2.out.mv fun j => HB.out.cell (p := ⟨bp, j, none⟩) HBP.out) (HR1.out.ext HB.out) (HR2.out.ext HB.out) ha hb HBP.out HM.out)
      go_wp2_with fail
      refine HV.out.mono ?_
      rintro e w5 ⟨⟨q, rfl⟩, hB5, vo, vt, vw5, outs, texts, wh, at0, at1, B1, B2, d1, d2, hM5, lo, hi5, hr1, hr2⟩
      obtain ⟨y0, y1, y2, yf⟩ := hM5.cells
      have HO5 := As.mk hM5.2.2.1
      have HB5 := As.mk (HB.out.trans hB5)
      have HR1' := As.mk (kb_ib hr1)
      have HR2' := As.mk (kb_ib hr2)
      clear hM5 hB5 hr1 hr2 m0 m1 m2 mf
      go_wp2_with fail
      go_ret
      obtain ⟨P, c, hv, _⟩ := HO5.out.shape
      exact ⟨_, rfl, HB5.out, outs, P, c, at0, at1, B1, B2, d1, d2, by rw [hv]; simp, HO5.out.rd (fun _ _ => trivial), HR1'.out, HR2'.out⟩
set_option maxRecDepth 100000 in
theorem r6Neat_ok (bp op cc : Nat) (a b k : Int) (name : ByteArray) (anti : Bool) (A1 A2 A3 A4 A5 A6 A7 : Option Addr) (c1 c2 l3 c3 l4 c4 l5 c5 l6 c6 l7 c7 : Nat) (cols others : List Int) (w : World)
    (h1 : RdI w AnyB (.slice A1 cols.length c1) cols) (h2 : RdI w AnyB (.slice A2 others.length c2) others) (ha : i64 a) (hb : i64 b) (hj : joinOk cols others a b = true)
    (hp : RdN w (.slice (some ⟨bp, op, none⟩) 3 cc) (NPlan a b k name anti A1 A2 A3 A4 A5 A6 A7 cols.length c1 others.length c2 l3 c3 l4 c4 l5 c5 l6 c6 l7 c7)) :
    Calls Tryz.prog 90 #[.slice (some ⟨bp, op, none⟩) 3 cc] w fun e w' => ∃ v, e = .returned (.tuple #[v, .int .i64 0]) ∧ NeatPost cols others w v w' := by
  have mixed := mixed
  have HW := As.mk (r6Width_any bp op cc a b k name anti A1 A2 A3 A4 A5 A6 A7 c1 c2 l3 c3 l4 c4 l5 c5 l6 c6 l7 c7 cols others w h1 h2 ha hb hp)
  have HNT := As.mk (fun W (hB : Below w.heap.size w W) => r6neat_any bp op cc a b k name anti A1 A2 A3 A4 A5 A6 A7 c1 c2 l3 c3 l4 c4 l5 c5 l6 c6 l7 c7 cols others W (h1.ext hB) (h2.ext hB) ha hb (hp.ext hB))
  have HJ := As.mk hj
  clear h1 h2 hp hj
  go_enter Tryz.func90, Tryz.ntmps90
  go_wp2_with fail
  refine HW.out.mono ?_
  rintro e w1 ⟨hB, h⟩
  rcases h with ⟨_, rfl, hab⟩ | ⟨h, _⟩
  · have HB := As.mk hB
    clear hB
    go_wp2_with fail
    refine (HNT.out w1 HB.out).mono ?_
    rintro e w2 ⟨v, rfl, hN⟩
    obtain ⟨hB2, outs, P, c, at0, at1, B1, B2, d1, d2, rfl, hr⟩ := hN
    have HN : As (NeatPost cols others w (.slice P (outs.length + 1) c) w2) := ⟨HB.out.trans (hB2.mono HB.out.size), outs, P, c, at0, at1, B1, B2, d1, d2, rfl, hr⟩
    clear hB2 hr
    go_wp2_with fail
    go_ret2
    exact ⟨_, rfl, HN.out⟩
  · exact absurd h (by rw [HJ.out]; decide)
end Go.Proofs.YtflckpfpgpfjlaaGreatDoor
end
