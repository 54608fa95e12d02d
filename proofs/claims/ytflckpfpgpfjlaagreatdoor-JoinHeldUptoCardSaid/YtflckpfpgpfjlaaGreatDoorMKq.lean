/- The walk of the law's num. Bags of one row: what awake plays with. -/
import Derived.Test.YtflckpfpgpfjlaaGreatDoorMJp
import Derived.Test.YtflckpfpgpfjlaaGreatDoorMJt
set_option linter.unusedVariables false
set_option linter.unusedSimpArgs false
section
namespace Go.Proofs.YtflckpfpgpfjlaaGreatDoor
open Go.RowKit Go.Sort
def iv (n : Int) : GV := ⟨2, n, 0, ⟨#[]⟩⟩
theorem iv_ok {n : Int} (h : i64 n) : (iv n).Ok := ⟨by unfold i64 iv; simp, h, by unfold u64 iv; simp, by show ByteArray.size ⟨#[]⟩ ≤ 9223372036854775807; decide⟩
def NAt (n xb : Nat) (w : World) (wt : Int) (v : Value) (r : List GV) : Prop := w.heap[xb]? = some (.cells #[v, .int .i64 wt] 66 (0, 0)) ∧ OwnL 4 EV 96 w n v r ∧ n ≤ xb
theorem below_set {n k i : Nat} {w w' : World} {v : Value} (h : Below n w w') (hk : n ≤ k) : Below n w (w'.setCell ⟨k, i, none⟩ v) := ⟨h.os, h.tape, h.output, by simpa using h.size, fun j hj => by rw [Below.heap_setCell _ _ _ _ (by simp; omega)]; exact h.block j hj⟩
theorem NAt.other {n k xb : Nat} {W w3 : World} {v v1 : Value} {r : List GV} {c : Array Value} (hO : OwnL 4 EV 96 W n v r) (hg : W.grownBy w3 v.ownBlock) (hP : W.heap[k]? = some (.cells c 66 (0, 0))) (hne : k ≠ xb) : (w3.setCell ⟨xb, 0, none⟩ v1).heap[k]? = some (.cells c 66 (0, 0)) := by
  have hb : v.ownBlock ≠ some k := fun hk => by
    obtain ⟨cells, hc⟩ := hO.typed _ hk
    have := tag_eq hP hc
    revert this
    decide
  rw [Below.heap_setCell _ _ _ _ hne]
  exact (hg.block k (Array.getElem?_eq_some_iff.1 hP).1 (fun e => hb e.symm)).trans hP
theorem NAt.push {n xb : Nat} {W w3 : World} {wt : Int} {v v1 : Value} {r : List GV} {x : GV} (hP : W.heap[xb]? = some (.cells #[v, .int .i64 wt] 66 (0, 0))) (hO : OwnL 4 EV 96 W n v r) (hn : n ≤ xb) (hown : OwnL 4 EV 96 w3 n v1 (r ++ [x])) (hg : W.grownBy w3 v.ownBlock) :
    w3.heap[xb]? = some (.cells #[v, .int .i64 wt] 66 (0, 0)) ∧ NAt n xb (w3.setCell ⟨xb, 0, none⟩ v1) wt v1 (r ++ [x]) := by
  have hne : v.ownBlock ≠ some xb := fun hk => by
    obtain ⟨cells, hc⟩ := hO.typed _ hk
    have := tag_eq hP hc
    revert this
    decide
  have h3 : w3.heap[xb]? = some (.cells #[v, .int .i64 wt] 66 (0, 0)) := (hg.block xb (Array.getElem?_eq_some_iff.1 hP).1 (fun e => hne e.symm)).trans hP
  refine ⟨h3, ?_, hown.set (p := ⟨xb, 0, none⟩) h3 (by decide) _, hn⟩
  have h5 := heap_setCell_same w3 xb 0 _ 66 v1 h3
  simpa using h5
def NumPost (l : List Int) (wt : Int) (w : World) (e : Ending) (w' : World) : Prop := ∃ A c, e = .returned (.agg #[.slice A l.length c, .int .i64 wt]) ∧ RdV w' (Fresh w.heap.size [96]) (.slice A l.length c) (l.map iv) ∧ Below w.heap.size w w'
theorem two_blocks (w : World) (a b c d : Value) (T : TypeId) : ((w.alloc (.cells #[a, b] T)).alloc (.cells #[c, d] T)).heap[w.heap.size]? = some (.cells #[a, b] T (0, 0)) ∧ ((w.alloc (.cells #[a, b] T)).alloc (.cells #[c, d] T)).heap[w.heap.size + 1]? = some (.cells #[c, d] T (0, 0)) := by
  have h1 : (w.alloc (.cells #[a, b] T)).heap[w.heap.size]? = some (.cells #[a, b] T (0, 0)) := heap_alloc_new w _
  have h2 := heap_alloc_new (w.alloc (.cells #[a, b] T)) (.cells #[c, d] T)
  refine ⟨?_, by simpa using h2⟩
  have h3 := (Ext.alloc (Ext.refl (w.alloc (.cells #[a, b] T))) (.cells #[c, d] T)).block w.heap.size (by simp)
  exact h3.trans h1
set_option maxRecDepth 100000 in
set_option maxHeartbeats 4000000 in
theorem lNum_any (wt : Int) (l : List Int) (v : Value) (w : World) (hv : RdI w AnyB v l) (hi : i64 wt) (hl : l.length ≤ 1000) : Calls Tryz.prog 26 #[.int .i64 wt, v] w (NumPost l wt w) := by
  have mixed := mixed
  obtain ⟨A, c, rfl, _⟩ := hv.shape
  have HV := As.mk hv
  clear hv
  go_enter Tryz.func26, Tryz.ntmps26
  go_wp2_with fail
  obtain ⟨W1, hW1⟩ : ∃ W1, W1 = (w.alloc (.cells #[.slice none 0 0, .int .i64 0] 66)).alloc (.cells #[.slice none 0 0, .int .i64 wt] 66) := ⟨_, rfl⟩
  obtain ⟨hr0, hx0⟩ := two_blocks w (.slice none 0 0) (.int .i64 0) (.slice none 0 0) (.int .i64 wt) 66
  rw [← hW1] at hr0 hx0 ⊢
  have HB1 : As (Below w.heap.size w W1) := ⟨hW1 ▸ (Ext.alloc (Ext.alloc (Ext.refl w) _) _).below⟩
  have HR1 := As.mk hr0
  have HN1 : As (∃ v, NAt w.heap.size (w.heap.size + 1) W1 wt v ((l.take 0).map iv)) := ⟨⟨_, hx0, OwnL.nil _ _ _ _ _, Nat.le_succ _⟩⟩
  clear hr0 hx0 hW1
  go_loopg [6] l.length (fun g s6 wr => ∃ k : Nat, k ≤ l.length ∧ l.length - k ≤ g ∧ s6 = .int .i64 k ∧ As (∃ v, NAt w.heap.size (w.heap.size + 1) wr wt v ((l.take k).map iv)) ∧ As (Below w.heap.size w wr) ∧ As (wr.heap[w.heap.size]? = some (.cells #[.slice none 0 0, .int .i64 0] 66 (0, 0))))
  case atStart => exact ⟨0, Nat.zero_le _, by omega, rfl, HN1, HB1, HR1⟩
  case round =>
    clear HN1 HB1 HR1
    obtain ⟨k, hk, hg, rfl, HN, HB, HR⟩ := hrel
    obtain ⟨v, hx0, hown, hxb⟩ := HN.out
    obtain ⟨x0, x1, _⟩ := cells2 hx0
    have HX0 := As.mk hx0
    have HO := As.mk hown
    by_cases hlt : k < l.length
    · have hltz : (k : Int) < (l.length : Int) := by omega
      obtain ⟨n, hn⟩ : ∃ n, l[k]? = some n := ⟨_, List.getElem?_eq_getElem hlt⟩
      obtain ⟨b2, o2, c2', hv2, hb2, hni, e0⟩ := RdI.val (HV.out.ext HB.out) hn
      injection hv2 with hA _ hcc
      subst hA hcc
      have HT : As ((l.take (k + 1)).map iv = (l.take k).map iv ++ [iv n]) := ⟨by rw [List.take_add_one, hn]; simp⟩
      have HIV := As.mk (iv_ok hni)
      have HLK : As (((l.take k).map iv).length < 4294967296) := ⟨by rw [List.length_map, List.length_take]; omega⟩
      have HOD := As.mk (HO.out.ext (Ext.drew (Ext.refl wr)))
      have HBD := As.mk (HB.out.trans ((Ext.drew (Ext.refl wr)).below.mono HB.out.size))
      have hbd := HBD.out.size
      have HXD : As (wr.drew.heap[w.heap.size + 1]? = some (.cells #[v, .int .i64 wt] 66 (0, 0))) := HX0
      have HRD : As (wr.drew.heap[w.heap.size]? = some (.cells #[.slice none 0 0, .int .i64 0] 66 (0, 0))) := HR
      clear hn hni hx0 hown HN
      generalize (l.take k).map iv = xs at *
      obtain ⟨A3, c3, rfl, _⟩ := HO.out.shape
      go_wp2_with fail
      go_region_law (refine OwnL.append_step (E := EV) (W := wr.drew) w.heap.size rfl (.tmp 16) (.tmp 22) 64 96 _ 4 40 rfl Tryz.underlying64 info_val rfl (by decide) (by decide) _ xs (iv n) [.int .i64 2, .int .i64 n, .int .u64 0, .string ⟨#[]⟩] rfl rfl ⟨rfl, HIV.out⟩ rfl (by simp [Value.oneCell']) HOD.out HBD.out hbd HLK.out rfl ?_; intro v1 w3 hown3 hb3 hg3; obtain ⟨A5, c5, rfl, _⟩ := hown3.shape; obtain ⟨h3, hN⟩ := NAt.push HXD.out HOD.out hxb hown3 hg3; obtain ⟨y0, y1, _⟩ := cells2 h3; have kf := Lib.frozen_of_heap h3 0; rw [show (xs ++ [iv n]).length = xs.length + 1 from by simp] at hN; have HN3 := As.mk hN; have HB3 := As.mk hb3; have HG3 := As.mk hg3; have HO3 := As.mk hown3; clear hown3 hb3 hg3 h3 hN)
      all_goals (go_wp2; go_roundg (l.length - (k + 1)); (case measure => omega); (case rel => exact ⟨k + 1, by omega, by omega, by go_num, ⟨⟨_, by rw [HT.out]; exact HN3.out⟩⟩, ⟨below_set HB3.out (Nat.le_succ _)⟩, ⟨NAt.other HOD.out HG3.out HRD.out (by omega)⟩⟩))
    · have hltz : ¬ (k : Int) < (l.length : Int) := by omega
      obtain rfl : k = l.length := by omega
      rw [List.take_length] at hown
      obtain ⟨A3, c3, rfl, _⟩ := hown.shape
      have HO2 := As.mk hown
      obtain ⟨r0, r1, _⟩ := cells2 HR.out
      have rf0 := Lib.frozen_of_heap HR.out 0
      have rf1 := Lib.frozen_of_heap HR.out 1
      clear hown hx0 HO HN
      rw [List.length_map] at *
      have HO3 := As.mk (OwnL.set (p := ⟨w.heap.size, 0, none⟩) HO2.out HR.out (by decide) (.slice A3 l.length c3))
      have HO4 := As.mk (OwnL.set (p := ⟨w.heap.size, 1, none⟩) HO3.out (heap_setCell_same wr w.heap.size 0 _ 66 (.slice A3 l.length c3) HR.out) (by decide) (.int .i64 wt))
      have HRD := As.mk (HO4.out.rd (ok := Fresh w.heap.size [96]) fun k hk => ⟨hk, by simp⟩)
      have HBF : As (Below w.heap.size w ((wr.setCell ⟨w.heap.size, 0, none⟩ (.slice A3 l.length c3)).setCell ⟨w.heap.size, 1, none⟩ (.int .i64 wt))) := ⟨below_set (below_set HB.out (Nat.le_refl _)) (Nat.le_refl _)⟩
      go_wp2_with fail
      (try simp only [Exit.inBlock, Exit.then]); refine bodyPost_ret (results_cell_row rfl _ _ w.heap.size 66 _ (0, 0) _ rfl (set2_heap HR.out) Tryz.underlying66 rfl (by kernel_rfl)) rfl ?_
      exact ⟨A3, c3, rfl, HRD.out, HBF.out⟩
end Go.Proofs.YtflckpfpgpfjlaaGreatDoor
end
section
namespace Go.Proofs.YtflckpfpgpfjlaaGreatDoor
open Go.RowKit Go.Sort
def r2 (a b : Int) : List GV := [iv a, iv b]
theorem iv_sound (n : Int) : vsound (iv n) = true := by simp [vsound, iv, eqGV]
theorem r2_sound (a b : Int) : rsound (r2 a b) = true := by simp [rsound, r2, iv_sound]
theorem r2_ok {a b : Int} (ha : i64 a) (hb : i64 b) : RowOk (r2 a b) := ⟨r2_sound a b, fun x hx => by
  unfold r2 at hx
  simp only [List.mem_cons, List.not_mem_nil, or_false] at hx
  rcases hx with rfl | rfl
  · exact iv_ok ha
  · exact iv_ok hb⟩
theorem key_two (a b : Int) : keyOf [0] (r2 a b) = [iv a] := by
  unfold keyOf pick
  rw [if_pos ⟨r2_sound a b, by decide⟩]
  rfl
def L1 (p : List GV) (x : Int) : List GE := if x = 0 then [] else [⟨p, x⟩]
theorem zw_L1 (p : List GV) (x : Int) (r : List GV) : zw (L1 p x) r = if sameR p r = true then x else 0 := by
  unfold L1
  by_cases h : x = 0
  · rw [if_pos h, zw_nil, h]; split <;> rfl
  · rw [if_neg h, zw_cons, zw_nil, Int.add_zero]
theorem L1_ok {p : List GV} (hp : RowOk p) (x : Int) : ZOk (L1 p x) := by
  unfold L1
  by_cases h : x = 0
  · rw [if_pos h]; exact ZOk.nil
  · rw [if_neg h]
    exact ⟨fun y hy => by rw [List.mem_singleton.1 hy]; exact hp, fun y hy => by rw [List.mem_singleton.1 hy]; exact h, List.pairwise_singleton _ _⟩
theorem L1_mem {p : List GV} {x : Int} {y : GE} (h : y ∈ L1 p x) : y.row = p ∧ y.w = x := by
  unfold L1 at h
  split at h
  · cases h
  · rw [List.mem_singleton.1 h]; exact ⟨rfl, rfl⟩
theorem L1_fair {p : List GV} {x : Int} (h1 : -1000 ≤ x) (h2 : x ≤ 1000) : FairZ (L1 p x) := fun y hy => by rw [(L1_mem hy).2]; exact fair_of (by omega) (by omega)
theorem L1_sound {p : List GV} {x : Int} (hp : RowOk p) (h1 : -1000 ≤ x) (h2 : x ≤ 1000) : zsound (L1 p x) = true := zok_sound (L1_ok hp x) (L1_fair h1 h2)
theorem L1_sum {p : List GV} {x d : Int} {a : List GE} (hp : RowOk p) (h : ZSum (L1 p x) (L1 p d) a) (ha : ZOk a) : a = L1 p (x + d) := zext ha (L1_ok hp _) fun r hr => by
  rw [h r hr, zw_L1, zw_L1, zw_L1]
  split <;> omega
theorem cols00 : Cols2 [0] [0] 2 2 := ⟨rfl, by decide, by decide, by decide⟩
section
variable {p q : List GV} {x y dx dy : Int}
theorem one_fit (hp : RowOk p) (hq : RowOk q) (lp : p.length = 2) (lq : q.length = 2) (hx : 0 ≤ x ∧ x ≤ 100) (hy : 0 ≤ y ∧ y ≤ 100) (hx2 : 0 ≤ x + dx ∧ x + dx ≤ 100) (hy2 : 0 ≤ y + dy ∧ y + dy ≤ 100) : JFit [0] [0] 2 2 (L1 p x) (L1 q y) (L1 p dx) (L1 q dy) where
  za := L1_ok hp x
  zb := L1_ok hq y
  zda := L1_ok hp dx
  zdb := L1_ok hq dy
  aw r := by rw [zw_L1]; split <;> omega
  bw r := by rw [zw_L1]; split <;> omega
  a' r := by rw [zw_L1, zw_L1]; split <;> omega
  b' r := by rw [zw_L1, zw_L1]; split <;> omega
  al u hu := by rw [(L1_mem hu).1, lp]
  bl u hu := by rw [(L1_mem hu).1, lq]
  dal u hu := by rw [(L1_mem hu).1, lp]
  dbl u hu := by rw [(L1_mem hu).1, lq]
  lk r hr hl := pick_in hr hl cols00.left
  rk r hr hl := pick_in hr hl cols00.right
theorem small_mul {u v : Int} (hu : 0 ≤ u ∧ u ≤ 100) (hv : 0 ≤ v ∧ v ≤ 100) : u * v ≤ 1099511627776 := Int.le_trans (Int.mul_le_mul hu.2 hv.2 hv.1 (by decide)) (by decide)
theorem one_ok (hp : RowOk p) (hq : RowOk q) (lp : p.length = 2) (lq : q.length = 2) (hx : 0 ≤ x ∧ x ≤ 100) (hy : 0 ≤ y ∧ y ≤ 100) (hx2 : 0 ≤ x + dx ∧ x + dx ≤ 100) (hy2 : 0 ≤ y + dy ∧ y + dy ≤ 100) : JOk [0] [0] 2 2 (L1 p x) (L1 q y) (L1 p dx) (L1 q dy) where
  fit := one_fit hp hq lp lq hx hy hx2 hy2
  old r s _ _ _ _ _ := by
    rw [zw_L1, zw_L1]
    exact small_mul (by split <;> omega) (by split <;> omega)
  new r s _ _ _ _ _ := by
    rw [zw_L1, zw_L1, zw_L1, zw_L1]
    exact small_mul (by split <;> omega) (by split <;> omega)
theorem one_delta (hp : RowOk p) (hq : RowOk q) (lp : p.length = 2) (lq : q.length = 2) (hk : keyOf [0] p = keyOf [0] q) {d : List GE} (h : JDelta [0] [0] 2 2 (L1 p x) (L1 q y) (L1 p dx) (L1 q dy) d) : d = L1 (p ++ q) ((x + dx) * (y + dy) - x * y) := by
  refine pair_ext h.ok (L1_ok (rowOk_app hp hq (by omega)) _) h.pair (fun u hu => ⟨p, q, hp, hq, lp, lq, (L1_mem hu).1⟩) fun r s hr hs hrl hsl => ?_
  rw [h.pt r s hr hs hrl hsl]
  simp only [zw_L1]
  have hi := app_inj (a := p) (b := q) (c := r) (d := s) (by rw [lp, hrl])
  by_cases h1 : p = r
  · by_cases h2 : q = s
    · subst h1 h2
      have e1 : sameR p p = true := (sameR_eq _ _).2 rfl
      have e2 : sameR q q = true := (sameR_eq _ _).2 rfl
      have e3 : sameR (p ++ q) (p ++ q) = true := (sameR_eq _ _).2 rfl
      have e4 : meetK [0] [0] p q = true := (sameR_eq _ _).2 hk
      unfold jw
      simp only [e1, e2, e3, e4, if_true]
    · have e2 : ¬ sameR q s = true := fun h => h2 ((sameR_eq _ _).1 h)
      have e3 : ¬ sameR (p ++ q) (r ++ s) = true := fun h => h2 (hi.1 ((sameR_eq _ _).1 h)).2
      rw [if_neg e2, if_neg e2, if_neg e3, Int.add_zero, jw_zero', jw_zero']
      rfl
  · have e1 : ¬ sameR p r = true := fun h => h1 ((sameR_eq _ _).1 h)
    have e3 : ¬ sameR (p ++ q) (r ++ s) = true := fun h => h1 (hi.1 ((sameR_eq _ _).1 h)).1
    rw [if_neg e1, if_neg e1, if_neg e3, Int.add_zero, jw_zero, jw_zero]
    rfl
end
theorem L1_length (p : List GV) (x : Int) : (L1 p x).length ≤ 1 := by unfold L1; split <;> simp
theorem JSt.step1 {R : Nat → Prop} {b bl br : Nat} {w w' : World} {e : Ending} {p q : List GV} {x y dx dy : Int} (hp : RowOk p) (hq : RowOk q) (lp : p.length = 2) (lq : q.length = 2) (hk : keyOf [0] p = keyOf [0] q) (hx : 0 ≤ x ∧ x ≤ 100) (hy : 0 ≤ y ∧ y ≤ 100) (hdx : -1000 ≤ dx ∧ dx ≤ 1000) (hdy : -1000 ≤ dy ∧ dy ≤ 1000) (hx2 : 0 ≤ x + dx ∧ x + dx ≤ 100) (hy2 : 0 ≤ y + dy ∧ y + dy ≤ 100)
    (h : StepAny R b bl br [0] [0] 2 2 0 (L1 p x) (L1 q y) [L1 p dx, L1 q dy] w e w') : ∃ A c, e = .returned (.tuple #[.slice A (L1 (p ++ q) ((x + dx) * (y + dy) - x * y)).length c, .int .i64 0]) ∧ RdZ2 w' w.heap.size (.slice A (L1 (p ++ q) ((x + dx) * (y + dy) - x * y)).length c) (L1 (p ++ q) ((x + dx) * (y + dy) - x * y)) ∧ JMut R w w' ∧ JSt (Since R w.heap.size w'.heap.size) b bl br w' [0] [0] 2 2 0 (L1 p (x + dx)) (L1 q (y + dy)) := by
  have h' : StepAny R b bl br [0] [0] ((2 : Nat) : Int) ((2 : Nat) : Int) 0 (L1 p x) (L1 q y) [L1 p dx, L1 q dy] w e w' := h
  obtain ⟨v, d, he, hd, hr, hm, a', z', hs, h1, h2, _⟩ := h'.ok (one_ok hp hq lp lq hx hy hx2 hy2) (by decide) (L1_sound hp hdx.1 hdx.2) (L1_sound hq hdy.1 hdy.2)
  have hdd := one_delta hp hq lp lq hk hd
  subst hdd
  obtain ⟨A, c, rfl, _⟩ := hr.shape
  obtain ⟨SL, SR, hI, bL, bR⟩ := hs
  rw [L1_sum hp h1 bL.told.ok] at bL
  rw [L1_sum hq h2 bR.told.ok] at bR
  exact ⟨A, c, he, hr, hm, SL, SR, hI, bL, bR⟩
end Go.Proofs.YtflckpfpgpfjlaaGreatDoor
end
