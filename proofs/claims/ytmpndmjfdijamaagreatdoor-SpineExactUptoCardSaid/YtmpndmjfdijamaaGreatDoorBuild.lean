/- The walks of (*strings.Builder).WriteByte and Write; WriteString, String and strings.ReplaceAll by the shelf. -/
import Derived.Test.YtmpndmjfdijamaaGreatDoorWord
import Derived.Test.YtmpndmjfdijamaaGreatDoorShelf
import Derived.Lib.OthersKept
set_option linter.unusedVariables false
set_option linter.unusedSimpArgs false
namespace Go.Proofs.YtmpndmjfdijamaaGreatDoor
open Go.RowKit Go.Sort
theorem reps_bytes (l : List UInt8) : Reps 1 EB l (Lib.byteCells l) := by
  refine ⟨by simp [Lib.byteCells], fun j x hj => ?_⟩
  obtain ⟨h, rfl⟩ := List.getElem?_eq_some_iff.1 hj
  rw [Nat.mul_one, List.drop_eq_getElem_cons (by simpa [Lib.byteCells] using h)]
  simp [Lib.byteCells, EB]
theorem bytes_of_reps {l : List UInt8} {cs : List Value} (h : Reps 1 EB l cs) : cs = Lib.byteCells l := by
  apply List.ext_getElem?
  intro j
  rcases Nat.lt_or_ge j l.length with hj | hj
  · have h1 := h.2 j l[j] (List.getElem?_eq_getElem hj)
    have hl : j < cs.length := by rw [h.1]; omega
    rw [Nat.mul_one, List.drop_eq_getElem_cons hl] at h1
    simp only [EB, List.take_succ_cons, List.take_zero, List.cons.injEq, and_true] at h1
    rw [List.getElem?_eq_getElem hl, h1]
    simp [Lib.byteCells, List.getElem?_eq_getElem hj]
  · rw [List.getElem?_eq_none (by rw [h.1]; omega), List.getElem?_eq_none (by simpa [Lib.byteCells] using hj)]
theorem byteCells_one (l : List UInt8) : ∀ u ∈ Lib.byteCells l, u.oneCell' = true := by
  intro u hu
  simp only [Lib.byteCells, List.mem_map] at hu
  obtain ⟨b, _, rfl⟩ := hu
  rfl
/-- A builder of the call's own that holds these bytes. -/
def BAt (w : World) (B b : Nat) (l : List UInt8) : Prop := Lib.IsBuilder 105 5 B b (Lib.byteCells l) w ∧ l.length ≤ 4294967296
theorem BAt.new (w : World) (B : Nat) (hB : B ≤ w.heap.size) : BAt (w.alloc (.cells #[.pointer none, .slice none 0 0] 105)) B w.heap.size [] :=
  ⟨.inl ⟨hB, .slice none 0 0, heap_alloc_new _ _, World.ownsRow_nil _ _ _ _, by simp [Value.ownBlock]⟩, by simp⟩
theorem BAt.below {w w' : World} {B b : Nat} {l : List UInt8} (h : BAt w B b l) (hb : Below w.heap.size w w') : BAt w' B b l := by
  refine ⟨?_, h.2⟩
  have key : ∀ p, Lib.BuilderAt 105 5 B b p (Lib.byteCells l) w → Lib.BuilderAt 105 5 B b p (Lib.byteCells l) w' := fun p ⟨h1, v, h2, h3, h4⟩ =>
    ⟨h1, v, (hb.block b (Array.getElem?_eq_some_iff.1 h2).1).trans h2, h3.kept (grown_of_below hb none) (by cases v.ownBlock <;> simp), h4⟩
  rcases h.1 with h | h
  · exact .inl (key _ h)
  · exact .inr (key _ h)
theorem info_u8 : (Tryz.prog.info? 5).map (fun i => (i.zero, i.size, i.bytes)) = some (some (.int .u8 0), 1, 1) := by kernel_rfl
/-- What a builder's writers leave: every block but the builder's own and rows of bytes. -/
abbrev Kept (b : Nat) (w w' : World) : Prop := Lib.OthersKept 5 (some b) w w'
theorem copyCheck_any (B b : Nat) (l : List UInt8) (w : World) (h : BAt w B b l) :
    Calls Tryz.prog 103 #[.pointer (some ⟨b, 0, none⟩)] w fun e w' => e = .returned (.tuple #[]) ∧ Lib.BuilderAt 105 5 B b (.pointer (some ⟨b, 0, none⟩)) (Lib.byteCells l) w' ∧ Below B w w' ∧ Kept b w w' ∧ Stays w w' (fun k _ => k ≠ b) (fun k _ => k ≠ b) := by
  rcases h.1 with h | h
  · refine (Any.Builder_copyCheck_fresh { Tryz.lays155 with } Tryz.Builder_Extra_155.toX72 b w h.cell0 h.shape h.frozen0).mono ?_
    rintro e w' ⟨rfl, rfl⟩
    exact ⟨rfl, h.used _, (Below.refl B w).setCell (p := ⟨b, 0, none⟩) h.1 _, (Lib.OthersKept.refl _ _ w).setCell ⟨b, 0, none⟩ rfl _, Stays.set (p := ⟨b, 0, none⟩) _ (fun _ _ _ _ h => h rfl) _⟩
  · refine (Any.Builder_copyCheck_used { Tryz.lays155 with } Tryz.Builder_Extra_155.toX72 b w h.cell0).mono ?_
    rintro e w' ⟨rfl, rfl⟩
    exact ⟨rfl, h, Below.refl B _, Lib.OthersKept.refl _ _ _, Stays.mono fun _ _ h => h⟩
theorem BAt.put {B b : Nat} {p v v' : Value} {l : List UInt8} {w : World} (hp : p = .pointer (some ⟨b, 0, none⟩)) (hB : B ≤ b) (hb : w.heap[b]? = some (.cells #[p, v] 105 (0, 0))) (hown : OwnL 1 EB 5 w B v' l) : BAt (w.setCell ⟨b, 1, none⟩ v') B b l := by
  obtain ⟨cs, ho, hr, _, hl⟩ := hown
  obtain rfl := bytes_of_reps hr
  subst hp
  exact ⟨.inr (Lib.BuilderAt.put hB hb (by simpa [Lib.byteCells] using ho) (by decide)), hl⟩
theorem writeByte_any (B b : Nat) (l : List UInt8) (c : UInt8) (w : World) (h : BAt w B b l) (hlen : l.length < 4294967296) (hBw : B ≤ w.heap.size) :
    Calls Tryz.prog 68 #[.pointer (some ⟨b, 0, none⟩), .int .u8 c.toNat] w fun e w' => e = .returned .nilIface ∧ BAt w' B b (l ++ [c]) ∧ Below B w w' ∧ Kept b w w' := by
  go_enter Tryz.func68, Tryz.ntmps68
  go_wp2_with (go_at_call 103; refine (copyCheck_any B b l _ h).mono ?_)
  rintro e w1 ⟨rfl, h1, hb1, hk1, hs1⟩
  obtain ⟨hB, v, hbk, hown, hne⟩ := h1
  have c0 : w1.cell? ⟨b, 0, none⟩ = some (.pointer (some ⟨b, 0, none⟩)) := by rw [Lib.cell_of_heap hbk]; rfl
  have c1 : w1.cell? ⟨b, 1, none⟩ = some v := by rw [Lib.cell_of_heap hbk]; rfl
  have HO : As (OwnL 1 EB 5 w1 B v l) := ⟨⟨_, by simpa [Lib.byteCells] using hown, reps_bytes l, byteCells_one l, by omega⟩⟩
  have HBK := As.mk hbk
  have HNE := As.mk hne
  have HB1 := As.mk hb1
  have HK1 := As.mk hk1
  have hBw1 := Nat.le_trans hBw hb1.size
  have hlt : b < w1.heap.size := (Array.getElem?_eq_some_iff.1 hbk).1
  clear hown hne hbk hb1 hk1 h hs1
  go_wp2_with (at_builtin; refine OwnL.append (W := w1) B rfl (.tmp 11) (.tmp 13) 103 5 _ 1 1 rfl Tryz.underlying103 info_u8 rfl (by decide) (by decide) v l c [.int .u8 c.toNat] rfl rfl (E := EB) rfl rfl (by simp [Value.oneCell']) HO.out HB1.out hBw1 hlen rfl ?_; intro v' w2 hown' hb' hg' hat; obtain ⟨ao, n', rfl, _⟩ := hown'.shape; have HK2 := As.mk ((HK1.out.grown hg' (fun g hg => let ⟨c, hc⟩ := HO.out.typed g hg; ⟨c, _, hc⟩)).setCell ⟨b, 1, none⟩ rfl (.slice ao (l.length + 1) n')); have hb2 : w2.heap[b]? = some (.cells #[.pointer (some ⟨b, 0, none⟩), v] 105 (0, 0)) := (by rw [hg'.block b hlt (fun e => HNE.out e.symm)]; exact HBK.out); have d0 : w2.cell? ⟨b, 0, none⟩ = some (.pointer (some ⟨b, 0, none⟩)) := (by rw [Lib.cell_of_heap hb2]; rfl); have d1 : w2.cell? ⟨b, 1, none⟩ = some v := (by rw [Lib.cell_of_heap hb2]; rfl); have f1 : w2.frozen? ⟨b, 1, none⟩ = false := Lib.frozen_of_heap hb2 1; have HP := As.mk (BAt.put rfl hB hb2 hown'); have HB2 := As.mk (hb'.setCell (p := ⟨b, 1, none⟩) hB (.slice ao (l ++ [c]).length n')); rw [show (l ++ [c]).length = l.length + 1 from (by simp)] at HP HB2; clear hown' hb' hg' hat hb2)
  go_ret
  exact ⟨rfl, HP.out, HB2.out, HK2.out⟩
theorem write_any (B b : Nat) (l m : List UInt8) (v0 : Value) (w : World) (h : BAt w B b l) (hm : RdB w (fun k _ => k ≠ b) v0 m) (hlen : l.length + m.length ≤ 4294967296) (hBw : B ≤ w.heap.size) :
    Calls Tryz.prog 69 #[.pointer (some ⟨b, 0, none⟩), v0] w fun e w' => ∃ n, e = .returned (.tuple #[.int .i64 n, .nilIface]) ∧ BAt w' B b (l ++ m) ∧ Below B w w' ∧ Kept b w w' := by
  obtain ⟨A0, c0', rfl, hcc⟩ := hm.shape
  have hml := hm.len
  go_enter Tryz.func69, Tryz.ntmps69
  go_wp2_with (go_at_call 103; refine (copyCheck_any B b l _ h).mono ?_)
  rintro e w1 ⟨rfl, h1, hb1, hk1, hs1⟩
  obtain ⟨hB, v, hbk, hown, hne⟩ := h1
  have c0 : w1.cell? ⟨b, 0, none⟩ = some (.pointer (some ⟨b, 0, none⟩)) := by rw [Lib.cell_of_heap hbk]; rfl
  have c1 : w1.cell? ⟨b, 1, none⟩ = some v := by rw [Lib.cell_of_heap hbk]; rfl
  have HO : As (OwnL 1 EB 5 w1 B v l) := ⟨⟨_, by simpa [Lib.byteCells] using hown, reps_bytes l, byteCells_one l, by omega⟩⟩
  have HBK := As.mk hbk
  have HNE := As.mk hne
  have HB1 := As.mk hb1
  have HK1 := As.mk hk1
  have HM := As.mk (RdL.move hm (E' := EB) (fun _ _ h => h) hs1)
  have hBw1 := Nat.le_trans hBw hb1.size
  have hlt : b < w1.heap.size := (Array.getElem?_eq_some_iff.1 hbk).1
  clear hown hne hbk hb1 hk1 h hs1 hm
  go_wp2_with (at_builtin; refine OwnL.appends B rfl (.tmp 12) (.tmp 13) 103 5 _ 1 1 rfl Tryz.underlying103 info_u8 rfl (by decide) (by decide) v l m A0 _ c0' rfl rfl HM.out HO.out HB1.out hBw1 hlen ?_; intro v' w2 hown' hb' hg' hat; obtain ⟨ao, n', rfl, _⟩ := hown'.shape; have HK2 := As.mk ((HK1.out.grown hg' (fun g hg => let ⟨c, hc⟩ := HO.out.typed g hg; ⟨c, _, hc⟩)).setCell ⟨b, 1, none⟩ rfl (.slice ao (l.length + m.length) n')); have hb2 : w2.heap[b]? = some (.cells #[.pointer (some ⟨b, 0, none⟩), v] 105 (0, 0)) := (by rw [hg'.block b hlt (fun e => HNE.out e.symm)]; exact HBK.out); have d0 : w2.cell? ⟨b, 0, none⟩ = some (.pointer (some ⟨b, 0, none⟩)) := (by rw [Lib.cell_of_heap hb2]; rfl); have d1 : w2.cell? ⟨b, 1, none⟩ = some v := (by rw [Lib.cell_of_heap hb2]; rfl); have f1 : w2.frozen? ⟨b, 1, none⟩ = false := Lib.frozen_of_heap hb2 1; have HP := As.mk (BAt.put rfl hB hb2 hown'); have HB2 := As.mk (hb'.setCell (p := ⟨b, 1, none⟩) hB (.slice ao (l ++ m).length n')); rw [show (l ++ m).length = l.length + m.length from (by simp)] at HP HB2; clear hown' hb' hg' hat hb2)
  go_ret2
  exact ⟨_, rfl, HP.out, HB2.out, HK2.out⟩
theorem bytes_str (l : List UInt8) (s : ByteArray) : Lib.byteCells (l ++ s.data.toList) = Lib.byteCells l ++ Lib.strCells s := by simp [Lib.byteCells, Lib.strCells]
theorem writeString_any (B b : Nat) (l : List UInt8) (s : ByteArray) (w : World) (h : BAt w B b l) (hlen : l.length + s.size ≤ 4294967296) (hBw : B ≤ w.heap.size) :
    Calls Tryz.prog 72 #[.pointer (some ⟨b, 0, none⟩), .string s] w fun e w' => e = .returned (.tuple #[.int .i64 s.size, .nilIface]) ∧ BAt w' B b (l ++ s.data.toList) ∧ Below B w w' ∧ Kept b w w' := by
  obtain ⟨i0, hi, hz0, hz1, hz2⟩ := info_parts info_u8
  have hl64 : (l ++ s.data.toList).length ≤ 4294967296 := by rw [List.length_append, Array.length_toList]; exact hlen
  go_enter Tryz.func72, Tryz.ntmps72
  go_wp2_with (go_at_call 103; refine (copyCheck_any B b l _ h).mono ?_)
  rintro e w1 ⟨rfl, h1, hb1, hk1, hs1⟩
  obtain ⟨hB, v, hbk, hown, hne⟩ := h1
  have c0 : w1.cell? ⟨b, 0, none⟩ = some (.pointer (some ⟨b, 0, none⟩)) := by rw [Lib.cell_of_heap hbk]; rfl
  have c1 : w1.cell? ⟨b, 1, none⟩ = some v := by rw [Lib.cell_of_heap hbk]; rfl
  rw [Lib.byteCells_length] at hown
  have HO := As.mk hown
  have HBK := As.mk hbk
  have HNE := As.mk hne
  have HB1 := As.mk hb1
  have HK1 := As.mk hk1
  have hBw1 := Nat.le_trans hBw hb1.size
  have hlt : b < w1.heap.size := (Array.getElem?_eq_some_iff.1 hbk).1
  clear hown hne hbk hb1 hk1 h hs1
  go_wp2_with (at_builtin; refine Lib.wpList_append_own_string _ rfl (.tmp 12) (.tmp 13) 103 9 rfl B 5 i0 (by kernel_rfl) (by kernel_rfl) hi hz0 hz1 hz2 _ _ _ rfl HO.out s rfl ?c3 ?c4 hBw1 ?_)
  case c3 => unfold maxLen; omega
  case c4 => omega
  intro v' w2 hown' hg' _
  have hb2 : w2.heap[b]? = some (.cells #[.pointer (some ⟨b, 0, none⟩), v] 105 (0, 0)) := by
    rw [hg'.block b hlt (fun e => HNE.out e.symm)]; exact HBK.out
  have d0 : w2.cell? ⟨b, 0, none⟩ = some (.pointer (some ⟨b, 0, none⟩)) := by rw [Lib.cell_of_heap hb2]; rfl
  have d1 : w2.cell? ⟨b, 1, none⟩ = some v := by rw [Lib.cell_of_heap hb2]; rfl
  have f1 : w2.frozen? ⟨b, 1, none⟩ = false := Lib.frozen_of_heap hb2 1
  obtain ⟨ao, n', cap, rfl⟩ : ∃ ao n' cap, v' = .slice ao n' cap := by
    rcases hown'.2 with ⟨hv, _⟩ | ⟨g, cap, cur, hv, _⟩
    · exact ⟨_, _, _, hv⟩
    · exact ⟨_, _, _, hv⟩
  have HK2 := As.mk ((HK1.out.grown hg' (fun g hg => let ⟨c, hc⟩ := own_typed HO.out g hg; ⟨c, _, hc⟩)).setCell ⟨b, 1, none⟩ rfl (.slice ao n' cap))
  have HP : As (BAt (w2.setCell ⟨b, 1, none⟩ (.slice ao n' cap)) B b (l ++ s.data.toList)) := by
    refine ⟨.inr ?_, hl64⟩
    rw [bytes_str]
    exact Lib.BuilderAt.put hB hb2 (bs' := Lib.byteCells l ++ Lib.strCells s) (by simpa [Lib.strCells_length, Lib.byteCells_length] using hown') (by decide)
  have HB2 := As.mk ((HB1.out.grown hg' hBw1 (fun k hk => (HO.out.lt k hk).1)).setCell (p := ⟨b, 1, none⟩) hB (.slice ao n' cap))
  clear hown' hg' hb2
  go_wp2
  go_ret2
  exact ⟨rfl, HP.out, HB2.out, HK2.out⟩
theorem string_any (B b : Nat) (l : List UInt8) (w : World) (h : BAt w B b l) (hBw : B ≤ w.heap.size) :
    Calls Tryz.prog 74 #[.pointer (some ⟨b, 0, none⟩)] w fun e w' => e = .returned (.string ⟨l.toArray⟩) ∧ Below B w w' := Any.Builder_String_any Tryz.lays169 Tryz.Builder_Extra_169 B b l w h.1 hBw
/-- The library's own number, of which nothing is asked but that it is there. -/
def GW (w : World) : Prop := ∃ m, w.cell? ⟨0, 0, none⟩ = some (.int .i64 m)
theorem GW.below {w w' : World} (h : GW w) (hb : Below w.heap.size w w') : GW w' := let ⟨m, hm⟩ := h; ⟨m, (hb.cell (World.block_lt_of_cell? w _ hm)).trans hm⟩
theorem replaceAll_any (s old new : ByteArray) (w : World) (hw : GW w) (hs : s.size < 4294967281) (h1 : 1 ≤ old.size) (hlen : s.size + Lib.countB s old * new.size ≤ 140737488355328) :
    Calls Tryz.prog 73 #[.string s, .string old, .string new] w fun e w' =>
      e = .returned (.string ⟨(Lib.replaceAll s.data.toList old.data.toList new.data.toList).toArray⟩) ∧ Below w.heap.size w w' :=
  let ⟨m, hm⟩ := hw
  Any.strings_ReplaceAll Tryz.lays155 Tryz.Builder_Extra_155 s old new m w hs hm h1 hlen
end Go.Proofs.YtmpndmjfdijamaaGreatDoor
