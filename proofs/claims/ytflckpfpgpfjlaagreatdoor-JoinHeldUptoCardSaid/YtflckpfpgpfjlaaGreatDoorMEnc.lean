/- The walks of (*strings.Builder).WriteByte and Write; WriteString, String and strings.ReplaceAll by the shelf. strings.ReplaceAll of a zero byte by two bytes, as a plain function. The walk of row.Encode. -/
import Derived.Test.YtflckpfpgpfjlaaGreatDoorMBase
import Derived.Test.YtflckpfpgpfjlaaGreatDoorShelf
import Derived.Lib.OthersKept
import Derived.Lib.SplitLaws
set_option linter.unusedVariables false
set_option linter.unusedSimpArgs false
section
namespace Go.Proofs.YtflckpfpgpfjlaaGreatDoor
open Go.RowKit Go.Sort
theorem reps_bytes (l : List UInt8) : Reps 1 EB l (Lib.byteCells l) := by
  refine ⟨by simp [Lib.byteCells], fun j x hj => ?_⟩
  obtain ⟨h, rfl⟩ := List.getElem?_eq_some_iff.1 hj
  rw [Nat.mul_one, List.drop_eq_getElem_cons (by simpa [Lib.byteCells] using h)]
  simp [Lib.byteCells, EB]
theorem bytes_of_reps {l : List UInt8} {cs : List Value} (h : Reps 1 EB l cs) : cs = Lib.byteCells l := by
  apply List.ext_getElem?
  intro j
  rcases Nat.lt_or_ge j l.length with hj | hj
  · have h1 := h.2 j l[j] (List.getElem?_eq_getElem hj)
    have hl : j < cs.length := by rw [h.1]; omega
    rw [Nat.mul_one, List.drop_eq_getElem_cons hl] at h1
    simp only [EB, List.take_succ_cons, List.take_zero, List.cons.injEq, and_true] at h1
    rw [List.getElem?_eq_getElem hl, h1]
    simp [Lib.byteCells, List.getElem?_eq_getElem hj]
  · rw [List.getElem?_eq_none (by rw [h.1]; omega), List.getElem?_eq_none (by simpa [Lib.byteCells] using hj)]
theorem byteCells_one (l : List UInt8) : ∀ u ∈ Lib.byteCells l, u.oneCell' = true := by
  intro u hu
  simp only [Lib.byteCells, List.mem_map] at hu
  obtain ⟨b, _, rfl⟩ := hu
  rfl
/-- A builder of the call's own that holds these bytes. -/
def BAt (w : World) (B b : Nat) (l : List UInt8) : Prop := Lib.IsBuilder 190 5 B b (Lib.byteCells l) w ∧ l.length ≤ 4294967296
theorem BAt.new (w : World) (B : Nat) (hB : B ≤ w.heap.size) : BAt (w.alloc (.cells #[.pointer none, .slice none 0 0] 190)) B w.heap.size [] :=
  ⟨.inl ⟨hB, .slice none 0 0, heap_alloc_new _ _, World.ownsRow_nil _ _ _ _, by simp [Value.ownBlock]⟩, by simp⟩
theorem BAt.below {w w' : World} {B b : Nat} {l : List UInt8} (h : BAt w B b l) (hb : Below w.heap.size w w') : BAt w' B b l := by
  refine ⟨?_, h.2⟩
  have key : ∀ p, Lib.BuilderAt 190 5 B b p (Lib.byteCells l) w → Lib.BuilderAt 190 5 B b p (Lib.byteCells l) w' := fun p ⟨h1, v, h2, h3, h4⟩ =>
    ⟨h1, v, (hb.block b (Array.getElem?_eq_some_iff.1 h2).1).trans h2, h3.kept (grown_of_below hb none) (by cases v.ownBlock <;> simp), h4⟩
  rcases h.1 with h | h
  · exact .inl (key _ h)
  · exact .inr (key _ h)
theorem info_u8 : (Tryz.prog.info? 5).map (fun i => (i.zero, i.size, i.bytes)) = some (some (.int .u8 0), 1, 1) := by kernel_rfl
/-- What a builder's writers leave: every block but the builder's own and rows of bytes. -/
abbrev Kept (b : Nat) (w w' : World) : Prop := Lib.OthersKept 5 (some b) w w'
theorem copyCheck_any (B b : Nat) (l : List UInt8) (w : World) (h : BAt w B b l) :
    Calls Tryz.prog 168 #[.pointer (some ⟨b, 0, none⟩)] w fun e w' => e = .returned (.tuple #[]) ∧ Lib.BuilderAt 190 5 B b (.pointer (some ⟨b, 0, none⟩)) (Lib.byteCells l) w' ∧ Below B w w' ∧ Kept b w w' ∧ Stays w w' (fun k _ => k ≠ b) (fun k _ => k ≠ b) := by
  rcases h.1 with h | h
  · refine (Any.Builder_copyCheck_fresh { Tryz.lays155 with } Tryz.Builder_Extra_155.toX72 b w h.cell0 h.shape h.frozen0).mono ?_
    rintro e w' ⟨rfl, rfl⟩
    exact ⟨rfl, h.used _, (Below.refl B w).setCell (p := ⟨b, 0, none⟩) h.1 _, (Lib.OthersKept.refl _ _ w).setCell ⟨b, 0, none⟩ rfl _, Stays.set (p := ⟨b, 0, none⟩) _ (fun _ _ _ _ h => h rfl) _⟩
  · refine (Any.Builder_copyCheck_used { Tryz.lays155 with } Tryz.Builder_Extra_155.toX72 b w h.cell0).mono ?_
    rintro e w' ⟨rfl, rfl⟩
    exact ⟨rfl, h, Below.refl B _, Lib.OthersKept.refl _ _ _, Stays.mono fun _ _ h => h⟩
theorem BAt.put {B b : Nat} {p v v' : Value} {l : List UInt8} {w : World} (hp : p = .pointer (some ⟨b, 0, none⟩)) (hB : B ≤ b) (hb : w.heap[b]? = some (.cells #[p, v] 190 (0, 0))) (hown : OwnL 1 EB 5 w B v' l) : BAt (w.setCell ⟨b, 1, none⟩ v') B b l := by
  obtain ⟨cs, ho, hr, _, hl⟩ := hown
  obtain rfl := bytes_of_reps hr
  subst hp
  exact ⟨.inr (Lib.BuilderAt.put hB hb (by simpa [Lib.byteCells] using ho) (by decide)), hl⟩
theorem writeByte_any (B b : Nat) (l : List UInt8) (c : UInt8) (w : World) (h : BAt w B b l) (hlen : l.length < 4294967296) (hBw : B ≤ w.heap.size) :
    Calls Tryz.prog 121 #[.pointer (some ⟨b, 0, none⟩), .int .u8 c.toNat] w fun e w' => e = .returned .nilIface ∧ BAt w' B b (l ++ [c]) ∧ Below B w w' ∧ Kept b w w' := by
  go_enter Tryz.func121, Tryz.ntmps121
  go_wp2_with (go_at_call 168; refine (copyCheck_any B b l _ h).mono ?_)
  rintro e w1 ⟨rfl, h1, hb1, hk1, hs1⟩
  obtain ⟨hB, v, hbk, hown, hne⟩ := h1
  have c0 : w1.cell? ⟨b, 0, none⟩ = some (.pointer (some ⟨b, 0, none⟩)) := by rw [Lib.cell_of_heap hbk]; rfl
  have c1 : w1.cell? ⟨b, 1, none⟩ = some v := by rw [Lib.cell_of_heap hbk]; rfl
  have HO : As (OwnL 1 EB 5 w1 B v l) := ⟨⟨_, by simpa [Lib.byteCells] using hown, reps_bytes l, byteCells_one l, by omega⟩⟩
  have HBK := As.mk hbk
  have HNE := As.mk hne
  have HB1 := As.mk hb1
  have HK1 := As.mk hk1
  have hBw1 := Nat.le_trans hBw hb1.size
  have hlt : b < w1.heap.size := (Array.getElem?_eq_some_iff.1 hbk).1
  clear hown hne hbk hb1 hk1 h hs1
  go_wp2_with (at_builtin; refine OwnL.append (W := w1) B rfl (.tmp 11) (.tmp 13) 188 5 _ 1 1 rfl Tryz.underlying188 info_u8 rfl (by decide) (by decide) v l c [.int .u8 c.toNat] rfl rfl (E := EB) rfl rfl (by simp [Value.oneCell']) HO.out HB1.out hBw1 hlen rfl ?_; intro v' w2 hown' hb' hg' hat; obtain ⟨ao, n', rfl, _⟩ := hown'.shape; have HK2 := As.mk ((HK1.out.grown hg' (fun g hg => let ⟨c, hc⟩ := HO.out.typed g hg; ⟨c, _, hc⟩)).setCell ⟨b, 1, none⟩ rfl (.slice ao (l.length + 1) n')); have hb2 : w2.heap[b]? = some (.cells #[.pointer (some ⟨b, 0, none⟩), v] 190 (0, 0)) := (by rw [hg'.block b hlt (fun e => HNE.out e.symm)]; exact HBK.out); have d0 : w2.cell? ⟨b, 0, none⟩ = some (.pointer (some ⟨b, 0, none⟩)) := (by rw [Lib.cell_of_heap hb2]; rfl); have d1 : w2.cell? ⟨b, 1, none⟩ = some v := (by rw [Lib.cell_of_heap hb2]; rfl); have f1 : w2.frozen? ⟨b, 1, none⟩ = false := Lib.frozen_of_heap hb2 1; have HP := As.mk (BAt.put rfl hB hb2 hown'); have HB2 := As.mk (hb'.setCell (p := ⟨b, 1, none⟩) hB (.slice ao (l ++ [c]).length n')); rw [show (l ++ [c]).length = l.length + 1 from (by simp)] at HP HB2; clear hown' hb' hg' hat hb2)
  go_ret
  exact ⟨rfl, HP.out, HB2.out, HK2.out⟩
theorem write_any (B b : Nat) (l m : List UInt8) (v0 : Value) (w : World) (h : BAt w B b l) (hm : RdB w (fun k _ => k ≠ b) v0 m) (hlen : l.length + m.length ≤ 4294967296) (hBw : B ≤ w.heap.size) :
    Calls Tryz.prog 122 #[.pointer (some ⟨b, 0, none⟩), v0] w fun e w' => ∃ n, e = .returned (.tuple #[.int .i64 n, .nilIface]) ∧ BAt w' B b (l ++ m) ∧ Below B w w' ∧ Kept b w w' := by
  obtain ⟨A0, c0', rfl, hcc⟩ := hm.shape
  have hml := hm.len
  go_enter Tryz.func122, Tryz.ntmps122
  go_wp2_with (go_at_call 168; refine (copyCheck_any B b l _ h).mono ?_)
  rintro e w1 ⟨rfl, h1, hb1, hk1, hs1⟩
  obtain ⟨hB, v, hbk, hown, hne⟩ := h1
  have c0 : w1.cell? ⟨b, 0, none⟩ = some (.pointer (some ⟨b, 0, none⟩)) := by rw [Lib.cell_of_heap hbk]; rfl
  have c1 : w1.cell? ⟨b, 1, none⟩ = some v := by rw [Lib.cell_of_heap hbk]; rfl
  have HO : As (OwnL 1 EB 5 w1 B v l) := ⟨⟨_, by simpa [Lib.byteCells] using hown, reps_bytes l, byteCells_one l, by omega⟩⟩
  have HBK := As.mk hbk
  have HNE := As.mk hne
  have HB1 := As.mk hb1
  have HK1 := As.mk hk1
  have HM := As.mk (RdL.move hm (E' := EB) (fun _ _ h => h) hs1)
  have hBw1 := Nat.le_trans hBw hb1.size
  have hlt : b < w1.heap.size := (Array.getElem?_eq_some_iff.1 hbk).1
  clear hown hne hbk hb1 hk1 h hs1 hm
  go_wp2_with (at_builtin; refine OwnL.appends B rfl (.tmp 12) (.tmp 13) 188 5 _ 1 1 rfl Tryz.underlying188 info_u8 rfl (by decide) (by decide) v l m A0 _ c0' rfl rfl HM.out HO.out HB1.out hBw1 hlen ?_; intro v' w2 hown' hb' hg' hat; obtain ⟨ao, n', rfl, _⟩ := hown'.shape; have HK2 := As.mk ((HK1.out.grown hg' (fun g hg => let ⟨c, hc⟩ := HO.out.typed g hg; ⟨c, _, hc⟩)).setCell ⟨b, 1, none⟩ rfl (.slice ao (l.length + m.length) n')); have hb2 : w2.heap[b]? = some (.cells #[.pointer (some ⟨b, 0, none⟩), v] 190 (0, 0)) := (by rw [hg'.block b hlt (fun e => HNE.out e.symm)]; exact HBK.out); have d0 : w2.cell? ⟨b, 0, none⟩ = some (.pointer (some ⟨b, 0, none⟩)) := (by rw [Lib.cell_of_heap hb2]; rfl); have d1 : w2.cell? ⟨b, 1, none⟩ = some v := (by rw [Lib.cell_of_heap hb2]; rfl); have f1 : w2.frozen? ⟨b, 1, none⟩ = false := Lib.frozen_of_heap hb2 1; have HP := As.mk (BAt.put rfl hB hb2 hown'); have HB2 := As.mk (hb'.setCell (p := ⟨b, 1, none⟩) hB (.slice ao (l ++ m).length n')); rw [show (l ++ m).length = l.length + m.length from (by simp)] at HP HB2; clear hown' hb' hg' hat hb2)
  go_ret2
  exact ⟨_, rfl, HP.out, HB2.out, HK2.out⟩
theorem bytes_str (l : List UInt8) (s : ByteArray) : Lib.byteCells (l ++ s.data.toList) = Lib.byteCells l ++ Lib.strCells s := by simp [Lib.byteCells, Lib.strCells]
theorem writeString_any (B b : Nat) (l : List UInt8) (s : ByteArray) (w : World) (h : BAt w B b l) (hlen : l.length + s.size ≤ 4294967296) (hBw : B ≤ w.heap.size) :
    Calls Tryz.prog 125 #[.pointer (some ⟨b, 0, none⟩), .string s] w fun e w' => e = .returned (.tuple #[.int .i64 s.size, .nilIface]) ∧ BAt w' B b (l ++ s.data.toList) ∧ Below B w w' ∧ Kept b w w' := by
  obtain ⟨i0, hi, hz0, hz1, hz2⟩ := info_parts info_u8
  have hl64 : (l ++ s.data.toList).length ≤ 4294967296 := by rw [List.length_append, Array.length_toList]; exact hlen
  go_enter Tryz.func125, Tryz.ntmps125
  go_wp2_with (go_at_call 168; refine (copyCheck_any B b l _ h).mono ?_)
  rintro e w1 ⟨rfl, h1, hb1, hk1, hs1⟩
  obtain ⟨hB, v, hbk, hown, hne⟩ := h1
  have c0 : w1.cell? ⟨b, 0, none⟩ = some (.pointer (some ⟨b, 0, none⟩)) := by rw [Lib.cell_of_heap hbk]; rfl
  have c1 : w1.cell? ⟨b, 1, none⟩ = some v := by rw [Lib.cell_of_heap hbk]; rfl
  rw [Lib.byteCells_length] at hown
  have HO := As.mk hown
  have HBK := As.mk hbk
  have HNE := As.mk hne
  have HB1 := As.mk hb1
  have HK1 := As.mk hk1
  have hBw1 := Nat.le_trans hBw hb1.size
  have hlt : b < w1.heap.size := (Array.getElem?_eq_some_iff.1 hbk).1
  clear hown hne hbk hb1 hk1 h hs1
  go_wp2_with (at_builtin; refine Lib.wpList_append_own_string _ rfl (.tmp 12) (.tmp 13) 188 9 rfl B 5 i0 (by kernel_rfl) (by kernel_rfl) hi hz0 hz1 hz2 _ _ _ rfl HO.out s rfl ?c3 ?c4 hBw1 ?_)
  case c3 => unfold maxLen; omega
  case c4 => omega
  intro v' w2 hown' hg' _
  have hb2 : w2.heap[b]? = some (.cells #[.pointer (some ⟨b, 0, none⟩), v] 190 (0, 0)) := by
    rw [hg'.block b hlt (fun e => HNE.out e.symm)]; exact HBK.out
  have d0 : w2.cell? ⟨b, 0, none⟩ = some (.pointer (some ⟨b, 0, none⟩)) := by rw [Lib.cell_of_heap hb2]; rfl
  have d1 : w2.cell? ⟨b, 1, none⟩ = some v := by rw [Lib.cell_of_heap hb2]; rfl
  have f1 : w2.frozen? ⟨b, 1, none⟩ = false := Lib.frozen_of_heap hb2 1
  obtain ⟨ao, n', cap, rfl⟩ : ∃ ao n' cap, v' = .slice ao n' cap := by
    rcases hown'.2 with ⟨hv, _⟩ | ⟨g, cap, cur, hv, _⟩
    · exact ⟨_, _, _, hv⟩
    · exact ⟨_, _, _, hv⟩
  have HK2 := As.mk ((HK1.out.grown hg' (fun g hg => let ⟨c, hc⟩ := own_typed HO.out g hg; ⟨c, _, hc⟩)).setCell ⟨b, 1, none⟩ rfl (.slice ao n' cap))
  have HP : As (BAt (w2.setCell ⟨b, 1, none⟩ (.slice ao n' cap)) B b (l ++ s.data.toList)) := by
    refine ⟨.inr ?_, hl64⟩
    rw [bytes_str]
    exact Lib.BuilderAt.put hB hb2 (bs' := Lib.byteCells l ++ Lib.strCells s) (by simpa [Lib.strCells_length, Lib.byteCells_length] using hown') (by decide)
  have HB2 := As.mk ((HB1.out.grown hg' hBw1 (fun k hk => (HO.out.lt k hk).1)).setCell (p := ⟨b, 1, none⟩) hB (.slice ao n' cap))
  clear hown' hg' hb2
  go_wp2
  go_ret2
  exact ⟨rfl, HP.out, HB2.out, HK2.out⟩
theorem string_any (B b : Nat) (l : List UInt8) (w : World) (h : BAt w B b l) (hBw : B ≤ w.heap.size) :
    Calls Tryz.prog 127 #[.pointer (some ⟨b, 0, none⟩)] w fun e w' => e = .returned (.string ⟨l.toArray⟩) ∧ Below B w w' := Any.Builder_String_any Tryz.lays169 Tryz.Builder_Extra_169 B b l w h.1 hBw
/-- The library's own number, of which nothing is asked but that it is there. -/
def GW (w : World) : Prop := ∃ m, w.cell? ⟨0, 0, none⟩ = some (.int .i64 m)
theorem GW.below {w w' : World} (h : GW w) (hb : Below w.heap.size w w') : GW w' := let ⟨m, hm⟩ := h; ⟨m, (hb.cell (World.block_lt_of_cell? w _ hm)).trans hm⟩
theorem replaceAll_any (s old new : ByteArray) (w : World) (hw : GW w) (hs : s.size < 4294967281) (h1 : 1 ≤ old.size) (hlen : s.size + Lib.countB s old * new.size ≤ 140737488355328) :
    Calls Tryz.prog 126 #[.string s, .string old, .string new] w fun e w' =>
      e = .returned (.string ⟨(Lib.replaceAll s.data.toList old.data.toList new.data.toList).toArray⟩) ∧ Below w.heap.size w w' :=
  let ⟨m, hm⟩ := hw
  Any.strings_ReplaceAll Tryz.lays155 Tryz.Builder_Extra_155 s old new m w hs hm h1 hlen
end Go.Proofs.YtflckpfpgpfjlaaGreatDoor
end
section
namespace Go.Proofs.YtflckpfpgpfjlaaGreatDoor
open Go.RowKit Go.Sort
def esc : List UInt8 → List UInt8
  | [] => []
  | b :: l => if b = 0 then 0 :: 255 :: esc l else b :: esc l
theorem index_zero (l : List UInt8) : Lib.index (0 :: l) [0] = ((0 : Nat) : Int) := by simp [Lib.index, List.isPrefixOf]
theorem index_other {b : UInt8} (l : List UInt8) (h : b ≠ 0) {i : Nat} (hi : Lib.index l [0] = i) : Lib.index (b :: l) [0] = ((i + 1 : Nat) : Int) := by
  have h1 : ¬ (0 = b) := fun e => h e.symm
  have h2 : ¬ ((i : Int) == -1) = true := fun e => by have := beq_iff_eq.1 e; omega
  unfold Lib.index
  rw [if_neg (by simp [List.isPrefixOf, h1]), hi, if_neg h2]
  push_cast; rfl
theorem replaceK_esc : ∀ l : List UInt8, Lib.replaceK [0] [0, 255] (Lib.count l [0]) l = esc l
  | [] => by rw [Lib.count_one]; rfl
  | b :: l => by
    have ih := replaceK_esc l
    by_cases h : b = 0
    · subst h
      rw [Lib.count_cons_eq, Nat.add_comm, Lib.replaceK_hit _ _ _ _ 0 (index_zero l)]
      simp [esc, ih]
    · rw [Lib.count_cons_ne _ _ _ h]
      simp only [esc, if_neg h]
      rw [← ih]
      rcases hc : Lib.count l [0] with _ | k
      · rfl
      · obtain ⟨i, hi⟩ := Lib.index_of_count (s := l) (old := [0]) (by omega)
        rw [Lib.replaceK_hit _ _ _ _ _ hi, Lib.replaceK_hit _ _ _ _ _ (index_other l h hi)]
        simp [Nat.add_right_comm]
theorem replaceAll_esc (l : List UInt8) : Lib.replaceAll l [0] [0, 255] = esc l := by
  have h : Lib.replaceAll l [0] [0, 255] = Lib.replaceK [0] [0, 255] (Lib.count l [0]) l := by
    simp [Lib.replaceAll, Lib.replace, Lib.replaceNum]
  rw [h, replaceK_esc]
theorem esc_len (l : List UInt8) : (esc l).length ≤ 2 * l.length := by
  induction l with
  | nil => simp [esc]
  | cons b l ih =>
    unfold esc
    split <;> simp only [List.length_cons] <;> omega
/-- Behind an escaped text and two zeros: the text and the rest are told. -/
theorem esc_inj : ∀ {l m : List UInt8} {r s : List UInt8}, esc l ++ 0 :: 0 :: r = esc m ++ 0 :: 0 :: s → l = m ∧ r = s
  | [], [], r, s, h => by simp [esc] at h; exact ⟨rfl, h⟩
  | [], c :: m, r, s, h => by
    by_cases hc : c = 0
    · subst hc; simp [esc] at h
    · simp only [esc, if_neg hc, List.nil_append, List.cons_append, List.cons.injEq] at h
      exact absurd h.1.symm hc
  | b :: l, [], r, s, h => by
    by_cases hc : b = 0
    · subst hc; simp [esc] at h
    · simp only [esc, if_neg hc, List.nil_append, List.cons_append, List.cons.injEq] at h
      exact absurd h.1 hc
  | b :: l, c :: m, r, s, h => by
    by_cases hb : b = 0 <;> by_cases hc : c = 0
    · subst hb hc
      simp only [esc, if_pos, List.cons_append, List.cons.injEq, true_and] at h
      obtain ⟨h1, h2⟩ := esc_inj h
      exact ⟨by rw [h1], h2⟩
    · subst hb
      simp only [esc, if_pos, if_neg hc, List.cons_append, List.cons.injEq] at h
      exact absurd h.1.symm hc
    · subst hc
      simp only [esc, if_pos, if_neg hb, List.cons_append, List.cons.injEq] at h
      exact absurd h.1 hb
    · simp only [esc, if_neg hb, if_neg hc, List.cons_append, List.cons.injEq] at h
      obtain ⟨h1, h2⟩ := esc_inj h.2
      exact ⟨by rw [h.1, h1], h2⟩
end Go.Proofs.YtflckpfpgpfjlaaGreatDoor
end
section
namespace Go.Proofs.YtflckpfpgpfjlaaGreatDoor
open Go.RowKit Go.Sort
/-- A number with its highest bit turned, as the code has it. -/
def nflip (n : Int) : Int := bits BinOp.xor .u64 (IntKind.u64.wrap n) 9223372036854775808
def kbyte (k : Int) : UInt8 := k.toNat.toUInt8
def encV (x : GV) : List UInt8 :=
  kbyte x.k :: (if x.k = 1 ∨ x.k = 2 then wordL (nflip x.n) else if x.k = 3 then wordL (fturned x.f) else if x.k = 4 then esc x.t.data.toList ++ [0, 0] else [])
def encR : List GV → List UInt8
  | [] => []
  | x :: r => encV x ++ encR r
theorem encR_app (r s : List GV) : encR (r ++ s) = encR r ++ encR s := by
  induction r with
  | nil => rfl
  | cons x r ih => simp [encR, ih]
def encB (r : List GV) : ByteArray := if rsound r = true then ⟨(encR r).toArray⟩ else ⟨#[]⟩
def encE (r : List GV) : Int := if rsound r = true then 0 else 1
theorem wordL_length (n : Int) : (wordL n).length = 8 := rfl
theorem vsound_kind {x : GV} (h : vsound x = true) : x.k = 0 ∨ x.k = 1 ∨ x.k = 2 ∨ x.k = 3 ∨ (x.k = 4 ∧ x.t.size ≤ 4096) := by
  unfold vsound at h
  by_cases h0 : x.k = 0
  · exact .inl h0
  by_cases h1 : x.k = 1
  · exact .inr (.inl h1)
  by_cases h2 : x.k = 2
  · exact .inr (.inr (.inl h2))
  by_cases h3 : x.k = 3
  · exact .inr (.inr (.inr (.inl h3)))
  by_cases h4 : x.k = 4
  · simp only [beq_iff_eq, h4] at h
    simp at h
    exact .inr (.inr (.inr (.inr ⟨h4, by omega⟩)))
  · simp [h0, h1, h2, h3, h4] at h
theorem kbyte_int {k : Int} (h0 : 0 ≤ k) (h1 : k < 256) : ((kbyte k).toNat : Int) = k := by
  unfold kbyte
  obtain ⟨m, rfl⟩ := Int.eq_ofNat_of_zero_le h0
  simp only [Int.toNat_natCast, Nat.toUInt8_eq, UInt8.toNat_ofNat']
  omega
theorem encV_len {x : GV} (h : vsound x = true) : (encV x).length ≤ 8195 := by
  have hk := vsound_kind h
  unfold encV
  rcases hk with hk | hk | hk | hk | ⟨hk, ht⟩
  · rw [hk]; simp
  · rw [hk]; simp [wordL_length]
  · rw [hk]; simp [wordL_length]
  · rw [hk]; simp [wordL_length]
  · have := esc_len x.t.data.toList
    have hs : x.t.data.toList.length = x.t.size := by simp
    rw [hk]
    simp
    omega
theorem rsound_at {r : List GV} (h : rsound r = true) : r.length ≤ 1024 ∧ ∀ x ∈ r, vsound x = true := by
  unfold rsound at h
  simp only [Bool.and_eq_true, decide_eq_true_eq, Bool.not_eq_true', List.any_eq_false, Bool.not_eq_eq_eq_not, Bool.not_true, Bool.not_eq_false] at h
  exact h
theorem encR_len {r : List GV} (h : ∀ x ∈ r, vsound x = true) : (encR r).length ≤ r.length * 8195 := by
  induction r with
  | nil => simp [encR]
  | cons x r ih =>
    have h1 := encV_len (h x (List.mem_cons_self ..))
    have h2 := ih (fun y hy => h y (List.mem_cons_of_mem _ hy))
    simp only [encR, List.length_append, List.length_cons, Nat.succ_mul]
    omega
theorem u64_nat {z : Int} {n : Nat} (h : z = (n : Int)) (hn : n < 18446744073709551616) : 0 ≤ z ∧ z < 18446744073709551616 := by omega
theorem nflip_nat (n : Int) : nflip n = (((n % 18446744073709551616).toNat ^^^ 9223372036854775808 : Nat) : Int) := by
  unfold nflip
  rw [IntKind.wrap_u64, u64_xor _ _ (Int.emod_nonneg _ (by decide)) (Int.emod_lt_of_pos _ (by decide)) (by decide) (by decide)]
  rfl
theorem nflip_range (n : Int) : 0 ≤ nflip n ∧ nflip n < 18446744073709551616 := by
  refine u64_nat (nflip_nat n) (Nat.xor_lt_two_pow (n := 64) ?_ (by decide))
  have := Int.emod_nonneg n (b := 18446744073709551616) (by decide)
  have := Int.emod_lt_of_pos n (b := 18446744073709551616) (by decide)
  omega
theorem fturned_nat {f : Int} (h : u64 f) : fturned f = (((if f.toNat &&& 9223372036854775808 ≠ 0 then 18446744073709551615 ^^^ f.toNat else f.toNat ||| 9223372036854775808) : Nat) : Int) := by
  obtain ⟨h0, h1⟩ := h
  obtain ⟨m, rfl⟩ := Int.eq_ofNat_of_zero_le h0
  unfold fturned
  have hm : m < 18446744073709551616 := by omega
  rw [show (9223372036854775808 : Int) = ((9223372036854775808 : Nat) : Int) from rfl, show IntKind.u64.max = ((18446744073709551615 : Nat) : Int) from by decide, u64_and_nat m _ hm (by decide), u64_or_nat m _ hm (by decide), u64_xor_nat _ m (by decide) hm, Int.toNat_natCast]
  by_cases h : m &&& 9223372036854775808 = 0
  · rw [h]; simp
  · have : ((m &&& 9223372036854775808 : Nat) : Int) ≠ 0 := by omega
    simp [h, this]
theorem fturned_range {f : Int} (h : u64 f) : 0 ≤ fturned f ∧ fturned f < 18446744073709551616 := by
  refine u64_nat (fturned_nat h) ?_
  have hm : f.toNat < 2 ^ 64 := by have := h.1; have := h.2; omega
  split
  · exact Nat.xor_lt_two_pow (n := 64) (by decide) hm
  · exact Nat.or_lt_two_pow (n := 64) hm (by decide)
theorem Kept.at {b : Nat} {w w' : World} (h : Kept b w w') {c : Nat} {cells : Array Value} {t : TypeId} {fz : Nat × Nat} (hc : w.heap[c]? = some (.cells cells t fz)) (hne : c ≠ b) (ht : t ≠ 5) : w'.heap[c]? = some (.cells cells t fz) :=
  h c _ hc (fun e => hne (Option.some.inj e)) (fun c' fz' e => ht (by injection e))
theorem writeByteI (B b : Nat) (l : List UInt8) (c : Int) (cc : UInt8) (hc : (cc.toNat : Int) = c) (w : World) (h : BAt w B b l) (hlen : l.length < 4294967296) (hBw : B ≤ w.heap.size) :
    Calls Tryz.prog 121 #[.pointer (some ⟨b, 0, none⟩), .int .u8 c] w fun e w' => e = .returned .nilIface ∧ BAt w' B b (l ++ [cc]) ∧ Below B w w' ∧ Kept b w w' := hc ▸ writeByte_any B b l cc w h hlen hBw
/-- Within a round: the builder holds l, the value x lies in block c. -/
def EncSt (w : World) (b c : Nat) (x : GV) (W : World) (l : List UInt8) : Prop :=
  BAt W w.heap.size b l ∧ Below w.heap.size w W ∧ W.heap[c]? = some (.cells #[.int .i64 x.k, .int .i64 x.n, .int .u64 x.f, .string x.t] 96 (0, 0)) ∧ b < c
section
variable {w W : World} {b c : Nat} {x : GV} {l : List UInt8}
theorem EncSt.size (h : EncSt w b c x W l) : w.heap.size ≤ W.heap.size := h.2.1.size
theorem EncSt.go {W' : World} {l' : List UInt8} (h : EncSt w b c x W l) (h1 : BAt W' w.heap.size b l') (h2 : Below w.heap.size W W') (h3 : Kept b W W') : EncSt w b c x W' l' :=
  ⟨h1, h.2.1.trans h2, h3.at h.2.2.1 (fun e => by have := h.2.2.2; omega) (by decide), h.2.2.2⟩
theorem EncSt.ext {W' : World} (h : EncSt w b c x W l) (hb : Below W.heap.size W W') : EncSt w b c x W' l :=
  ⟨h.1.below hb, h.2.1.trans (hb.mono h.2.1.size), (hb.block c (Array.getElem?_eq_some_iff.1 h.2.2.1).1).trans h.2.2.1, h.2.2.2⟩
theorem EncSt.lt (h : EncSt w b c x W l) : b < W.heap.size := Nat.lt_trans h.2.2.2 (Array.getElem?_eq_some_iff.1 h.2.2.1).1
theorem EncSt.byte (h : EncSt w b c x W l) (v : Int) (cc : UInt8) (hc : (cc.toNat : Int) = v) (hlen : l.length < 4294967296) :
    Calls Tryz.prog 121 #[.pointer (some ⟨b, 0, none⟩), .int .u8 v] W fun e W' => e = .returned .nilIface ∧ EncSt w b c x W' (l ++ [cc]) :=
  (writeByteI w.heap.size b l v cc hc W h.1 hlen h.size).mono fun e W' ⟨he, h1, h2, h3⟩ => ⟨he, h.go h1 h2 h3⟩
theorem EncSt.write (h : EncSt w b c x W l) (v : Value) (m : List UInt8) (hm : RdB W (fun k _ => k ≠ b) v m) (hlen : l.length + m.length ≤ 4294967296) :
    Calls Tryz.prog 122 #[.pointer (some ⟨b, 0, none⟩), v] W fun e W' => ∃ n, e = .returned (.tuple #[.int .i64 n, .nilIface]) ∧ EncSt w b c x W' (l ++ m) :=
  (write_any w.heap.size b l m v W h.1 hm hlen h.size).mono fun e W' ⟨n, he, h1, h2, h3⟩ => ⟨n, he, h.go h1 h2 h3⟩
theorem EncSt.str (h : EncSt w b c x W l) (s : ByteArray) (m : List UInt8) (hm : s.data.toList = m) (hlen : l.length + m.length ≤ 4294967296) :
    Calls Tryz.prog 125 #[.pointer (some ⟨b, 0, none⟩), .string s] W fun e W' => e = .returned (.tuple #[.int .i64 s.size, .nilIface]) ∧ EncSt w b c x W' (l ++ m) := by
  subst hm
  exact (writeString_any w.heap.size b l s W h.1 (by rw [Array.length_toList] at hlen; exact hlen) h.size).mono fun e W' ⟨he, h1, h2, h3⟩ => ⟨he, h.go h1 h2 h3⟩
theorem EncSt.word (h : EncSt w b c x W l) (n : Int) (hn : 0 ≤ n ∧ n < 18446744073709551616) :
    Calls Tryz.prog 123 #[.int .u64 n] W fun e W' => ∃ A d, e = .returned (.slice A (wordL n).length d) ∧ RdB W' (fun k _ => k ≠ b) (.slice A (wordL n).length d) (wordL n) ∧ EncSt w b c x W' l :=
  (word_any n W hn).mono fun e W' ⟨v, he, h1, h2⟩ => by
    obtain ⟨A, d, rfl, _⟩ := h1.shape
    exact ⟨A, d, he, RdL.move h1 (fun _ _ h => h) (Stays.mono fun k _ hk e => by have := h.lt; omega), h.ext h2⟩
theorem EncSt.repl (h : EncSt w b c x W l) (hw : GW w) (t : ByteArray) (ht : t.size ≤ 4096) :
    Calls Tryz.prog 126 #[.string t, .string ⟨#[0]⟩, .string ⟨#[0, 255]⟩] W fun e W' => e = .returned (.string ⟨(esc t.data.toList).toArray⟩) ∧ EncSt w b c x W' l := by
  have hc := Lib.countB_mul_le ⟨#[0]⟩ (by decide) t.size t (Nat.le_refl _)
  have h1 : ByteArray.size ⟨#[0]⟩ = 1 := rfl
  have h2 : ByteArray.size ⟨#[0, 255]⟩ = 2 := rfl
  rw [h1] at hc
  refine (replaceAll_any t ⟨#[0]⟩ ⟨#[0, 255]⟩ W (hw.below h.2.1) (by omega) (by decide) (by rw [h2]; omega)).mono fun e W' ⟨he, hb⟩ => ⟨?_, h.ext hb⟩
  rw [he, replaceAll_esc]
theorem EncSt.cells (h : EncSt w b c x W l) : W.cell? ⟨c, 0, none⟩ = some (.int .i64 x.k) ∧ W.cell? ⟨c, 1, none⟩ = some (.int .i64 x.n) ∧ W.cell? ⟨c, 2, none⟩ = some (.int .u64 x.f) ∧ W.cell? ⟨c, 3, none⟩ = some (.string x.t) := by
  refine ⟨?_, ?_, ?_, ?_⟩ <;> rw [Lib.cell_of_heap h.2.2.1] <;> rfl
end
theorem EncSt.new {w wr : World} {b : Nat} {l : List UInt8} (x : GV) (h : BAt wr w.heap.size b l) (hb : Below w.heap.size w wr) (hlt : b < wr.heap.size) :
    EncSt w b wr.heap.size x (wr.alloc (.cells #[.int .i64 x.k, .int .i64 x.n, .int .u64 x.f, .string x.t] 96)) l :=
  ⟨h.below ((Below.refl _ _).alloc (Nat.le_refl _) _), hb.alloc hb.size _, heap_alloc_new _ _, hlt⟩
theorem encR_step {r : List GV} {k : Nat} {x : GV} (h : r[k]? = some x) : encR (r.take (k + 1)) = encR (r.take k) ++ encV x := by
  rw [List.take_add_one, h, Option.toList_some, encR_app]
  simp [encR]
theorem encode_any (r : List GV) (v : Value) (w : World) (hr : RdV w AnyB v r) (hw : GW w) :
    Calls Tryz.prog 69 #[v] w fun e w' => e = .returned (.tuple #[.string (encB r), .int .i64 (encE r)]) ∧ Below w.heap.size w w' := by
  obtain ⟨A, c, rfl, hrc⟩ := hr.shape
  have f1 := rSound_any _ r w hr
  have HR := As.mk hr
  have HW := As.mk hw
  have HB : As (encB r = if rsound r = true then ⟨(encR r).toArray⟩ else ⟨#[]⟩) := ⟨rfl⟩
  have HE : As (encE r = if rsound r = true then 0 else 1) := ⟨rfl⟩
  have HS : As (rsound r = true → r.length ≤ 1024 ∧ ∀ x ∈ r, vsound x = true) := ⟨rsound_at⟩
  generalize encB r = bb at *
  generalize encE r = ee at *
  generalize rsound r = q at *
  clear hr hw
  cases q
  · rw [if_neg Bool.false_ne_true] at HB HE
    obtain rfl := HB.out
    obtain rfl := HE.out
    go_enter Tryz.func69, Tryz.ntmps69
    go_wp2_with (go_at_call 54; refine f1.mono ?_; rintro e w1 ⟨rfl, hE⟩)
    go_ret2
    exact ⟨rfl, hE.below⟩
  · rw [if_pos rfl] at HB HE
    replace HS := As.mk (HS.out rfl)
    obtain rfl := HE.out
    go_enter Tryz.func69, Tryz.ntmps69
    go_wp2_with (go_at_call 54; refine f1.mono ?_; rintro e w1 ⟨rfl, hE⟩)
    have H1 : As (Below w.heap.size w (w1.alloc (.cells #[.pointer none, .slice none 0 0] 190)) ∧ BAt (w1.alloc (.cells #[.pointer none, .slice none 0 0] 190)) w.heap.size w1.heap.size []) := ⟨hE.below.alloc hE.size _, BAt.new w1 w.heap.size hE.size⟩
    have hbB := hE.size
    have hbs : w1.heap.size < (w1.alloc (.cells #[.pointer none, .slice none 0 0] 190)).heap.size := by simp
    generalize w1.heap.size = b at *
    generalize w1.alloc (.cells #[.pointer none, .slice none 0 0] 190) = w2 at *
    clear hE f1 w1
    go_loopg [12] r.length (fun g s12 wr => ∃ (k : Nat), k ≤ r.length ∧ r.length - k ≤ g ∧ s12 = .int .i64 k ∧ b < wr.heap.size ∧ As (Below w.heap.size w wr ∧ BAt wr w.heap.size b (encR (r.take k))))
    case atStart => exact ⟨0, by omega, by omega, by go_num, hbs, ⟨H1.out.1, by simpa [encR] using H1.out.2⟩⟩
    case round =>
      obtain ⟨k, hk, hg, rfl, hbs, HI⟩ := hrel
      by_cases hlt : k < r.length
      · have hltz : (k : Int) < (r.length : Int) := by omega
        obtain ⟨x, hx⟩ : ∃ x, r[k]? = some x := ⟨_, List.getElem?_eq_getElem hlt⟩
        obtain ⟨b0, o, c', hv, hb0, hxo, e0, e1, e2, e3⟩ := RdV.val (HR.out.ext HI.out.1) hx
        injection hv with hA _ hcc
        subst hA
        have HX := As.mk hx
        have HXO := As.mk hxo
        clear hx hcc hxo
        have hrl := HS.out.1
        have hkd := vsound_kind (HS.out.2 x (List.mem_of_getElem? HX.out))
        have S0 := As.mk (EncSt.new x HI.out.2 HI.out.1 hbs)
        have hL : (encR (r.take k)).length ≤ 8391680 := by
          have := encR_len (r := r.take k) fun y hy => HS.out.2 y (List.mem_of_mem_take hy)
          have h2 := HS.out.1
          rw [List.length_take] at this
          omega
        obtain ⟨xk, xn, xf, xt⟩ := x
        have hfr := fturned_range HXO.out.f
        simp only at *
        rcases hkd with rfl | rfl | rfl | rfl | ⟨rfl, hts⟩
        · have HKB : As (((kbyte 0).toNat : Int) = 0) := ⟨rfl⟩
          go_wp2_with (first | (go_at_call 121; refine (S0.out.byte _ _ HKB.out (by omega)).mono ?_; rintro e w3 ⟨rfl, hS⟩; have S1 := As.mk hS; clear hS; obtain ⟨q0, q1, q2, q3⟩ := S1.out.cells) | fail)
          go_roundg (r.length - (k + 1))
          case measure => omega
          case rel => exact ⟨k + 1, by omega, by omega, by go_num, S1.out.lt, ⟨S1.out.2.1, by rw [encR_step HX.out]; simpa [encV, kbyte] using S1.out.1⟩⟩
        · have HKB : As (((kbyte 1).toNat : Int) = 1) := ⟨rfl⟩
          go_wp2_with (first | (go_at_call 121; refine (S0.out.byte _ _ HKB.out (by omega)).mono ?_; rintro e w3 ⟨rfl, hS⟩; have S1 := As.mk hS; clear hS; obtain ⟨q0, q1, q2, q3⟩ := S1.out.cells) | (go_at_call 123; refine (S1.out.word _ (nflip_range xn)).mono ?_; rintro e w4 ⟨A4, c4, rfl, hr4, hS⟩; have S2 := As.mk hS; have R4 := As.mk hr4; clear hS hr4) | (go_at_call 122; refine (S2.out.write _ _ R4.out (by simp [wordL_length]; omega)).mono ?_; rintro e w5 ⟨n5, rfl, hS⟩; have S3 := As.mk hS; clear hS))
          go_roundg (r.length - (k + 1))
          case measure => omega
          case rel => exact ⟨k + 1, by omega, by omega, by go_num, S3.out.lt, ⟨S3.out.2.1, by rw [encR_step HX.out]; simpa [encV, nflip] using S3.out.1⟩⟩
        · have HKB : As (((kbyte 2).toNat : Int) = 2) := ⟨rfl⟩
          go_wp2_with (first | (go_at_call 121; refine (S0.out.byte _ _ HKB.out (by omega)).mono ?_; rintro e w3 ⟨rfl, hS⟩; have S1 := As.mk hS; clear hS; obtain ⟨q0, q1, q2, q3⟩ := S1.out.cells) | (go_at_call 123; refine (S1.out.word _ (nflip_range xn)).mono ?_; rintro e w4 ⟨A4, c4, rfl, hr4, hS⟩; have S2 := As.mk hS; have R4 := As.mk hr4; clear hS hr4) | (go_at_call 122; refine (S2.out.write _ _ R4.out (by simp [wordL_length]; omega)).mono ?_; rintro e w5 ⟨n5, rfl, hS⟩; have S3 := As.mk hS; clear hS))
          go_roundg (r.length - (k + 1))
          case measure => omega
          case rel => exact ⟨k + 1, by omega, by omega, by go_num, S3.out.lt, ⟨S3.out.2.1, by rw [encR_step HX.out]; simpa [encV, nflip] using S3.out.1⟩⟩
        · have HKB : As (((kbyte 3).toNat : Int) = 3) := ⟨rfl⟩
          go_wp2_with (first | (go_at_call 121; refine (S0.out.byte _ _ HKB.out (by omega)).mono ?_; rintro e w3 ⟨rfl, hS⟩; have S1 := As.mk hS; clear hS; obtain ⟨q0, q1, q2, q3⟩ := S1.out.cells) | (go_at_call 124; refine (turned_any xf _).mono ?_; rintro e w6 ⟨rfl, rfl⟩) | (go_at_call 123; refine (S1.out.word _ hfr).mono ?_; rintro e w4 ⟨A4, c4, rfl, hr4, hS⟩; have S2 := As.mk hS; have R4 := As.mk hr4; clear hS hr4) | (go_at_call 122; refine (S2.out.write _ _ R4.out (by simp [wordL_length]; omega)).mono ?_; rintro e w5 ⟨n5, rfl, hS⟩; have S3 := As.mk hS; clear hS))
          go_roundg (r.length - (k + 1))
          case measure => omega
          case rel => exact ⟨k + 1, by omega, by omega, by go_num, S3.out.lt, ⟨S3.out.2.1, by rw [encR_step HX.out]; simpa [encV, nflip] using S3.out.1⟩⟩
        · have HKB : As (((kbyte 4).toNat : Int) = 4) := ⟨rfl⟩
          have hel := esc_len xt.data.toList
          have hxs : xt.data.toList.length ≤ 4096 := by rw [Array.length_toList]; exact hts
          have hb1 : (encR (r.take k) ++ [kbyte 4]).length + (esc xt.data.toList).length ≤ 4294967296 := by simp; omega
          have hb2 : ((encR (r.take k) ++ [kbyte 4]) ++ esc xt.data.toList).length + [(0 : UInt8), 0].length ≤ 4294967296 := by simp; omega
          have HB1 := As.mk hb1; have HB2 := As.mk hb2; clear hb1 hb2
          go_wp2_with (first | (go_at_call 121; refine (S0.out.byte _ _ HKB.out (by omega)).mono ?_; rintro e w3 ⟨rfl, hS⟩; have S1 := As.mk hS; clear hS; obtain ⟨q0, q1, q2, q3⟩ := S1.out.cells) | (go_at_call 126; refine (S1.out.repl HW.out xt hts).mono ?_; rintro e w4 ⟨rfl, hS⟩; have S2 := As.mk hS; clear hS) | (go_at_call 125; refine (S2.out.str ⟨(esc xt.data.toList).toArray⟩ (esc xt.data.toList) rfl HB1.out).mono ?_; rintro e w5 ⟨rfl, hS⟩; have S3 := As.mk hS; clear hS S2) | (go_at_call 125; refine (S3.out.str ⟨#[0, 0]⟩ [0, 0] rfl HB2.out).mono ?_; rintro e w6 ⟨rfl, hS⟩; have S4 := As.mk hS; clear hS))
          go_roundg (r.length - (k + 1))
          case measure => omega
          case rel => exact ⟨k + 1, by omega, by omega, by go_num, S4.out.lt, ⟨S4.out.2.1, by rw [encR_step HX.out]; simpa [encV, nflip] using S4.out.1⟩⟩
      · have hltz : ¬ (k : Int) < (r.length : Int) := by omega
        obtain rfl : k = r.length := by omega
        have HP := As.mk (string_any w.heap.size b (encR r) wr (by have := HI.out.2; rwa [List.take_length] at this) HI.out.1.size)
        obtain rfl := HB.out
        go_wp2_with (go_at_call 127; refine HP.out.mono ?_; rintro e w3 ⟨rfl, hB3⟩)
        go_ret2
        exact ⟨rfl, HI.out.1.trans hB3⟩
end Go.Proofs.YtflckpfpgpfjlaaGreatDoor
end
