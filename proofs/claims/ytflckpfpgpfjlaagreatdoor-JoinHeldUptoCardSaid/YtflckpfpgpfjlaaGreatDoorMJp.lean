/- The walk of pairs.add. -/
import Derived.Test.YtflckpfpgpfjlaaGreatDoorMJmet
import Derived.Deep.RegionHeld3
set_option linter.unusedVariables false
set_option linter.unusedSimpArgs false
namespace Go.Proofs.YtflckpfpgpfjlaaGreatDoor
open Go.RowKit Go.Sort
section
variable {P : Program} {ops : Array Oper} {rest : List Oper} {o : Oper} {a : Act} {Q : Exit → Act → World → Prop} {α : Type} {E : α → List Value → Prop}
/-- The same as one step of a region that draws its order; the world's spelling is open. -/
theorem OwnL.append_step_at {w0 W W' : World} {K : Act → World → Prop} {F : Prop} (base : Nat) (hgd : o.guard = none) (s x : Operand) (t e : TypeId) (z : Value) (sz bytes : Nat)
    (ho : o.op = .call { callee := .builtin .append, args := #[s, x], argTypes := #[t, t] })
    (ht : P.underlying t = some (.slice e)) (hinfo : (P.info? e).map (fun i => (i.zero, i.size, i.bytes)) = some (some z, sz, bytes)) (hz : z.cells.size = sz) (hs0 : 0 < sz) (hb0 : bytes ≤ 32768)
    (v : Value) (ps : List α) (p : α) (cs : List Value) (hs : a.eval s = v) (hx : a.eval x = .slice (some ⟨W.heap.size, 0, none⟩) 1 1) (hp : E p cs) (hcs : cs.length = sz) (h1 : ∀ u ∈ cs, u.oneCell' = true)
    (HO : OwnL sz E e W base v ps) (HB : Below base w0 W) (hbase : base ≤ W.heap.size) (hl : ps.length < 4294967296) (hW : W' = W.alloc (.cells cs.toArray e))
    (h : ∀ v1 w1, OwnL sz E e w1 base v1 (ps ++ [p]) → Below base w0 w1 → W.grownBy w1 v.ownBlock → (v1.ownBlock = v.ownBlock ∨ ∃ b, v1.ownBlock = some b ∧ W.heap.size ≤ b) → K (a.put o.dst v1) w1) :
    if Region.wanted o (yielded ops a.tmps) = true then Oper.wp P o a W' K Q else F := by
  subst hW
  obtain ⟨inner, hown, hr, h1', hlen⟩ := HO
  obtain ⟨i0, hi, hzz⟩ := Option.map_eq_some_iff.1 hinfo
  simp only [Prod.mk.injEq] at hzz
  obtain ⟨hz0, hz1, hz2⟩ := hzz
  have hbd : (ps.length + 1) * bytes ≤ 140737488355328 := Nat.le_trans (Nat.mul_le_mul (show ps.length + 1 ≤ 4294967296 by omega) hb0) (by decide)
  rw [if_pos (by simp [Region.wanted, hgd])]
  obtain ⟨v1, w1, hrun, hown1, hg, _, hat⟩ := run_append_own_at (P := P) (W.alloc (.cells cs.toArray e)) base t o.type e i0 z sz bytes ht hi hz0 hz1 hz2 hz hs0 v ps.length inner (hown.alloc _) ⟨W.heap.size, 0, none⟩ 1 1 cs (by rw [hcs]; simp)
    (by simpa using World.news_of_block (cs := cs.toArray) (t := e) (fr := (0, 0)) (heap_alloc_new W (.cells cs.toArray e))) h1 (by simp only [maxLen]; omega) hbd (by simp; omega)
  unfold Oper.wp execOp
  simp only [ho, resolve, invoke, builtin, Sem.run_bind, Sem.run_pure, Result.andThen_ok, List.map_toArray, List.map_cons, List.map_nil, hs, hx, hrun]
  refine h v1 w1 ⟨inner ++ cs, by rw [List.length_append, List.length_singleton]; exact hown1, hr.snoc hp hcs, fun u hu => ?_, by simp; omega⟩ ((HB.alloc hbase _).grown hg (by simp; omega) fun k hk => (hown.lt k hk).1) (World.grownBy.trans (World.grownBy_alloc W _ _) hg) (by rcases hat with hat | hat; exact .inl hat; exact .inr ⟨_, hat, by simp⟩)
  rcases List.mem_append.1 hu with hu | hu
  · exact h1' u hu
  · exact h1 u hu
end
/-- The gathered pairs in block p; the row of them lies where P lets it. -/
def PAt (P : Nat → Prop) (base p : Nat) (w : World) (xs : List GE) (over : Bool) : Prop := ∃ v, w.heap[p]? = some (.cells #[v, .bool over] 77 (0, 0)) ∧ OwnL 2 (EE w (Fresh base [96])) 66 w base v xs ∧ base ≤ p ∧ ∀ g, v.ownBlock = some g → P g
/-- What add leaves. -/
structure Mup (P : Nat → Prop) (p : Nat) (w w' : World) : Prop where
  os : w'.os = w.os
  tape : w'.tape = w.tape
  output : w'.output = w.output
  size : w.heap.size ≤ w'.heap.size
  block : ∀ k o, w.heap[k]? = some o → k ≠ p → (¬ P k ∨ ∀ c fz, o ≠ .cells c 66 fz) → w'.heap[k]? = some o
section
variable {base : Nat → Prop} {b : Nat} {w w' w'' : World}
theorem Mup.refl (base : Nat → Prop) (b : Nat) (w : World) : Mup base b w w := ⟨rfl, rfl, rfl, Nat.le_refl _, fun _ _ h _ _ => h⟩
theorem Mup.trans (h : Mup base b w w') (k : Mup base b w' w'') : Mup base b w w'' :=
  ⟨k.os.trans h.os, k.tape.trans h.tape, k.output.trans h.output, Nat.le_trans h.size k.size, fun i o hi hb ho => k.block i o (h.block i o hi hb ho) hb ho⟩
theorem Mup.ext (h : Mup base b w w') (k : Below w'.heap.size w' w'') : Mup base b w w'' :=
  ⟨k.os.trans h.os, k.tape.trans h.tape, k.output.trans h.output, Nat.le_trans h.size k.size, fun i o hi hb ho => let h2 := h.block i o hi hb ho; (k.block i (Array.getElem?_eq_some_iff.1 h2).1).trans h2⟩
theorem Mup.set (h : Mup base b w w') (i : Nat) (v : Value) : Mup base b w (w'.setCell ⟨b, i, none⟩ v) :=
  ⟨h.os, h.tape, h.output, by simpa using h.size, fun k o hk hb ho => by rw [Below.heap_setCell _ _ _ _ hb]; exact h.block k o hk hb ho⟩
theorem Mup.grown (h : Mup base b w w') {row : Option Nat} (hg : w'.grownBy w'' row) (hrow : ∀ g, row = some g → base g ∧ ∃ c fz, w'.heap[g]? = some (.cells c 66 fz)) : Mup base b w w'' := by
  refine ⟨hg.os.trans h.os, hg.tape.trans h.tape, hg.output.trans h.output, Nat.le_trans h.size hg.size, fun k o hk hb ho => ?_⟩
  have h2 := h.block k o hk hb ho
  refine (hg.block k (Array.getElem?_eq_some_iff.1 h2).1 fun e => ?_).trans h2
  obtain ⟨h3, c, fz, h4⟩ := hrow k e.symm
  rw [h2] at h4
  rcases ho with ho | ho
  · exact ho h3
  · exact ho c fz (Option.some.inj h4)
theorem Mup.stays (h : Mup base b w w') {cs : Array Value} {fr : Nat × Nat} (hb : w.heap[b]? = some (.cells cs 77 fr)) {ok ok' : Blk} (hok : ∀ k t, ok k t → t ≠ 77 ∧ t ≠ 66 ∧ ok' k t) : Stays w w' ok ok' := by
  intro k t cells f ho hh
  obtain ⟨h1, h2, h3⟩ := hok k t ho.1
  refine ⟨ho.mono fun t h => (hok k t h).2.2, h.block k _ hh ?_ (.inr fun c fz e => ?_)⟩
  · rintro rfl
    rw [hb] at hh
    injection hh with hh
    injection hh with _ h4 _
    exact h1 h4.symm
  · injection e with _ h4 _
    exact h2 h4
theorem Mup.below (h : Mup base b w w') {B : Nat} (h1 : ∀ k, base k → B ≤ k) (h2 : B ≤ b) (hB : B ≤ w.heap.size) : Below B w w' :=
  ⟨h.os, h.tape, h.output, h.size, fun k hk => by
    have hlt : k < w.heap.size := by omega
    rw [h.block k _ (Array.getElem?_eq_getElem hlt) (by omega) (.inl (fun hp => by have := h1 k hp; omega)), Array.getElem?_eq_getElem hlt]⟩
end
theorem PAt.over {P : Nat → Prop} {base p : Nat} {w : World} {xs : List GE} {o : Bool} (h : PAt P base p w xs o) (q : Bool) : PAt P base p (w.setCell ⟨p, 1, none⟩ (.bool q)) xs q := by
  obtain ⟨v, h1, h2, h3, h4⟩ := h
  refine ⟨v, ?_, ?_, h3, h4⟩
  · have h5 := heap_setCell_same w p 1 _ 77 (.bool q) h1
    simpa using h5
  · refine (h2.set (p := ⟨p, 1, none⟩) h1 (by decide) _).imp fun _ _ e => EE.mv e (Stays.set (p := ⟨p, 1, none⟩) _ (fun t cells fr hh ho => ?_) _)
    rw [h1] at hh
    injection hh with hh
    injection hh with _ ht _
    have h5 := ho.2
    rw [← ht] at h5
    revert h5
    decide
theorem PAt.ext {P : Nat → Prop} {base p : Nat} {w w' : World} {xs : List GE} {o : Bool} (h : PAt P base p w xs o) (hb : Below w.heap.size w w') : PAt P base p w' xs o := by
  obtain ⟨v, h1, h2, h3, h4⟩ := h
  exact ⟨v, (hb.block p (Array.getElem?_eq_some_iff.1 h1).1).trans h1, (h2.imp fun _ _ e => EE.mv e (Stays.below hb _)).below hb, h3, h4⟩
theorem PAt.push {P : Nat → Prop} {base p : Nat} {W w3 : World} {v v1 : Value} {xs : List GE} {x : GE} {o : Bool} (hP : W.heap[p]? = some (.cells #[v, .bool o] 77 (0, 0))) (hO : OwnL 2 (EE W (Fresh base [96])) 66 W base v xs) (hb : base ≤ p) (h4 : ∀ g, v.ownBlock = some g → P g) (hbw : ∀ k, W.heap.size ≤ k → P k)
    (hown : OwnL 2 (EE W (Fresh base [96])) 66 w3 base v1 (xs ++ [x])) (hg : W.grownBy w3 v.ownBlock) (hat : v1.ownBlock = v.ownBlock ∨ ∃ b, v1.ownBlock = some b ∧ W.heap.size ≤ b) :
    ∃ A3 c3, v1 = .slice A3 (xs.length + 1) c3 ∧ w3.heap[p]? = some (.cells #[v, .bool o] 77 (0, 0)) ∧ PAt P base p (w3.setCell ⟨p, 0, none⟩ v1) (xs ++ [x]) o ∧ Mup P p W (w3.setCell ⟨p, 0, none⟩ v1) := by
  obtain ⟨A3, c3, hv, _⟩ := hown.shape
  rw [List.length_append, List.length_singleton] at hv
  subst hv
  have hne : v.ownBlock ≠ some p := fun hk => by
    obtain ⟨cells, hc⟩ := hO.typed _ hk
    rw [hP] at hc
    injection hc with hc
    injection hc with _ h2 _
    revert h2
    decide
  have h3 : w3.heap[p]? = some (.cells #[v, .bool o] 77 (0, 0)) := (hg.block p (Array.getElem?_eq_some_iff.1 hP).1 (fun e => hne e.symm)).trans hP
  refine ⟨A3, c3, rfl, h3, ⟨_, ?_, ?_, hb, own_next h4 hbw hat⟩, ((Mup.refl P p W).grown hg fun g hg => ⟨h4 g hg, ?_⟩).set 0 _⟩
  · have h5 := heap_setCell_same w3 p 0 _ 77 (.slice A3 (xs.length + 1) c3) h3
    simpa using h5
  · refine ((hown.imp fun _ _ h => EE.mv h (hO.rowStays hg (ok := Fresh base [96]) (fun k h => by have := h.2; simp at this))).set (p := ⟨p, 0, none⟩) h3 (by decide) _).imp fun _ _ e => EE.mv e (Stays.set (p := ⟨p, 0, none⟩) _ (fun t cells fr hh ho => ?_) _)
    rw [h3] at hh
    injection hh with hh
    injection hh with _ ht _
    have h5 := ho.2
    rw [← ht] at h5
    revert h5
    decide
  · obtain ⟨c, hc⟩ := hO.typed g hg
    exact ⟨c, _, hc⟩
def AddJPost (P : Nat → Prop) (base p : Nat) (xs : List GE) (over : Bool) (a b : GSp) (w : World) (e : Ending) (w' : World) : Prop := e = .returned (.tuple #[]) ∧ PAt P base p w' (xs ++ out1 a b) (over || over1 a b) ∧ Mup P p w w'
theorem box2 {w1 : World} {n : Nat} (hn : w1.heap.size = n) (a0 a1 a2 b0 b1 b2 : Value) (T : TypeId) :
    ((w1.alloc (.cells #[a0, a1, a2] T)).alloc (.cells #[b0, b1, b2] T)).cell? ⟨n, 0, none⟩ = some a0 ∧ ((w1.alloc (.cells #[a0, a1, a2] T)).alloc (.cells #[b0, b1, b2] T)).cell? ⟨n + 1, 0, none⟩ = some b0 := by
  subst hn
  have h1 : (w1.alloc (.cells #[a0, a1, a2] T)).heap[w1.heap.size]? = some (.cells #[a0, a1, a2] T (0, 0)) := heap_alloc_new w1 _
  have h2 : ((w1.alloc (.cells #[a0, a1, a2] T)).alloc (.cells #[b0, b1, b2] T)).heap[w1.heap.size + 1]? = some (.cells #[b0, b1, b2] T (0, 0)) := by
    have := heap_alloc_new (w1.alloc (.cells #[a0, a1, a2] T)) (.cells #[b0, b1, b2] T)
    simpa using this
  exact ⟨Ext.cell (Ext.alloc (Ext.refl _) _) (by rw [Lib.cell_of_heap h1]; rfl), by rw [Lib.cell_of_heap h2]; rfl⟩
theorem row2 (w1 : World) (a b : Value) (T : TypeId) : (w1.alloc (.cells #[a, b] T)).cell? ⟨w1.heap.size, 0, none⟩ = some a ∧ (w1.alloc (.cells #[a, b] T)).cell? ⟨w1.heap.size, 1, none⟩ = some b := by
  have h1 : (w1.alloc (.cells #[a, b] T)).heap[w1.heap.size]? = some (.cells #[a, b] T (0, 0)) := heap_alloc_new w1 _
  exact ⟨by rw [Lib.cell_of_heap h1]; rfl, by rw [Lib.cell_of_heap h1]; rfl⟩
theorem AddJPost.of {P : Nat → Prop} {base p : Nat} {xs : List GE} {over : Bool} {a b : GSp} {w w' : World} {ys : List GE} {q : Bool} (h : PAt P base p w' ys q) (hm : Mup P p w w') (hy : ys = xs ++ out1 a b) (hq : q = (over || over1 a b)) : AddJPost P base p xs over a b w (.returned (.tuple #[])) w' := by
  subst hy hq
  exact ⟨rfl, h, hm⟩
set_option maxRecDepth 100000 in
set_option maxHeartbeats 4000000 in
theorem jAdd_any (P : Nat → Prop) (base p : Nat) (xs : List GE) (over : Bool) (a b : GSp) (A B : Option Addr) (c d : Nat) (w : World) (hbw : ∀ k, w.heap.size ≤ k → P k) (h : PAt P base p w xs over)
    (hl : xs.length < 4294967296) (hab : a.row.length + b.row.length ≤ 4294967296) (ha : RdV w (fun k _ => k ≠ p) (.slice A a.row.length c) a.row) (hb : RdV w (fun k _ => k ≠ p) (.slice B b.row.length d) b.row) (hi : i64 a.before ∧ i64 a.now ∧ i64 b.before ∧ i64 b.now) :
    Calls Tryz.prog 33 #[.pointer (some ⟨p, 0, none⟩), .agg #[.slice A a.row.length c, .int .i64 a.before, .int .i64 a.now], .agg #[.slice B b.row.length d, .int .i64 b.before, .int .i64 b.now]] w (AddJPost P base p xs over a b w) := by
  have mixed := mixed
  have HAT := As.mk h
  obtain ⟨v, h1, h2, h3, h4⟩ := h
  obtain ⟨ra, ba, na⟩ := a
  obtain ⟨rb, bb, nb⟩ := b
  simp only at *
  have c1 := fun W => jTimes_any ba bb hi.1 hi.2.2.1 W
  have c2 := fun W => jTimes_any na nb hi.2.1 hi.2.2.2 W
  have HP := As.mk (fun w' (ys : List GE) (q : Bool) (h : PAt P base p w' ys q) (hm : Mup P p w w') (hy : ys = xs ++ out1 ⟨ra, ba, na⟩ ⟨rb, bb, nb⟩) (hq : q = (over || over1 ⟨ra, ba, na⟩ ⟨rb, bb, nb⟩)) => AddJPost.of h hm hy hq)
  generalize hQ : AddJPost P base p xs over ⟨ra, ba, na⟩ ⟨rb, bb, nb⟩ w = Q at *
  unfold out1 over1 at HP
  simp only at HP
  generalize timesV ba bb = tb at *
  generalize timesB ba bb = ob at *
  generalize timesV na nb = tn at *
  generalize timesB na nb = on at *
  clear hQ hi
  have H2 := As.mk h2
  have H4 := As.mk h4
  have HA := As.mk ha
  have HB := As.mk hb
  have HBW := As.mk hbw
  obtain ⟨f0, f1, hpl⟩ := cells2 h1
  have g0 : w.frozen? ⟨p, 0, none⟩ = false := Lib.frozen_of_heap h1 0
  have g1 : w.frozen? ⟨p, 1, none⟩ = false := Lib.frozen_of_heap h1 1
  have H1 := As.mk h1
  clear h1 h2 h4 ha hb hbw
  cases hon : on with
  | false =>
    subst hon
    have HF : As (∀ w', PAt P base p w' xs true → Mup P p w w' → Q (.returned (.tuple #[])) w') := ⟨fun w' h hm => HP.out w' xs true h hm (by simp) (by simp)⟩
    clear HP
    cases over
    · go_enter Tryz.func33, Tryz.ntmps33
      go_wp2_with (first | (go_at_call 67; (with_reducible refine (c1 _).mono ?_); rintro e w1 ⟨rfl, rfl⟩) | (go_at_call 67; (with_reducible refine (c2 _).mono ?_); rintro e w1 ⟨rfl, rfl⟩))
      ((try simp only [Exit.inBlock, Exit.then]); refine bodyPost_ret (results_none rfl _ _ _) rfl ?_)
      have hB := (Ext.below (Ext.alloc (Ext.alloc (Ext.refl (w.setCell ⟨p, 1, none⟩ (.bool true))) (.cells #[.slice A ra.length c, .int .i64 ba, .int .i64 na] 83)) (.cells #[.slice B rb.length d, .int .i64 bb, .int .i64 nb] 83)))
      exact HF.out _ ((HAT.out.over true).ext hB) (((Mup.refl P p w).set 1 _).ext hB)
    · go_enter Tryz.func33, Tryz.ntmps33
      go_wp2_with (first | (go_at_call 67; (with_reducible refine (c1 _).mono ?_); rintro e w1 ⟨rfl, rfl⟩) | (go_at_call 67; (with_reducible refine (c2 _).mono ?_); rintro e w1 ⟨rfl, rfl⟩))
      ((try simp only [Exit.inBlock, Exit.then]); refine bodyPost_ret (results_none rfl _ _ _) rfl ?_)
      have hB := (Ext.below (Ext.alloc (Ext.alloc (Ext.refl (w.setCell ⟨p, 1, none⟩ (.bool true))) (.cells #[.slice A ra.length c, .int .i64 ba, .int .i64 na] 83)) (.cells #[.slice B rb.length d, .int .i64 bb, .int .i64 nb] 83)))
      exact HF.out _ ((HAT.out.over true).ext hB) (((Mup.refl P p w).set 1 _).ext hB)
  | true =>
    subst hon
    by_cases ht : tn = tb
    · subst ht
      have HF : As (∀ w', PAt P base p w' xs over → Mup P p w w' → Q (.returned (.tuple #[])) w') := ⟨fun w' h hm => HP.out w' xs over h hm (by simp) (by simp)⟩
      clear HP
      have hB := fun q => (Ext.below (Ext.alloc (Ext.alloc (Ext.refl (w.setCell ⟨p, 1, none⟩ (.bool q))) (.cells #[.slice A ra.length c, .int .i64 ba, .int .i64 na] 83)) (.cells #[.slice B rb.length d, .int .i64 bb, .int .i64 nb] 83)))
      cases over
      · go_enter Tryz.func33, Tryz.ntmps33
        go_wp2_with (first | (go_at_call 67; (with_reducible refine (c1 _).mono ?_); rintro e w1 ⟨rfl, rfl⟩) | (go_at_call 67; (with_reducible refine (c2 _).mono ?_); rintro e w1 ⟨rfl, rfl⟩))
        ((try simp only [Exit.inBlock, Exit.then]); refine bodyPost_ret (results_none rfl _ _ _) rfl ?_)
        exact HF.out _ ((HAT.out.over _).ext (hB _)) (((Mup.refl P p w).set 1 _).ext (hB _))
      · go_enter Tryz.func33, Tryz.ntmps33
        go_wp2_with (first | (go_at_call 67; (with_reducible refine (c1 _).mono ?_); rintro e w1 ⟨rfl, rfl⟩) | (go_at_call 67; (with_reducible refine (c2 _).mono ?_); rintro e w1 ⟨rfl, rfl⟩))
        ((try simp only [Exit.inBlock, Exit.then]); refine bodyPost_ret (results_none rfl _ _ _) rfl ?_)
        exact HF.out _ ((HAT.out.over _).ext (hB _)) (((Mup.refl P p w).set 1 _).ext (hB _))
    · have hne : (tn != tb) = true := by simpa using ht
      have HF : As (∀ w', PAt P base p w' (xs ++ [⟨ra ++ rb, wrap64 (tn - tb)⟩]) over → Mup P p w w' → Q (.returned (.tuple #[])) w') := ⟨fun w' h hm => HP.out w' _ over h hm (by rw [if_pos ⟨rfl, ht⟩]) (by simp)⟩
      clear HP
      generalize hrc : ra ++ rb = rc at *
      have hdw : IntKind.i64.wrap (tn - tb) = wrap64 (tn - tb) := by (rw [IntKind.wrap_i64]; unfold wrap64; omega)
      have hidw := wrap64_i64 (tn - tb)
      generalize wrap64 (tn - tb) = dw at *
      cases over
      · go_enter Tryz.func33, Tryz.ntmps33
        go_wp2_with (first | (go_at_call 67; (with_reducible refine (c1 _).mono ?_); rintro e w1 ⟨rfl, rfl⟩) | (go_at_call 67; (with_reducible refine (c2 _).mono ?_); rintro e w1 ⟨rfl, rfl⟩))
        have hB0 := (Ext.below (Ext.alloc (Ext.alloc (Ext.refl (w.setCell ⟨p, 1, none⟩ (.bool false))) (.cells #[.slice A ra.length c, .int .i64 ba, .int .i64 na] 83)) (.cells #[.slice B rb.length d, .int .i64 bb, .int .i64 nb] 83)))
        have HD := As.mk ((HAT.out.over false).ext hB0)
        have HMD := As.mk (((Mup.refl P p w).set 1 (.bool false)).ext hB0)
        have HA0 : As (RdV _ AnyB (.slice A ra.length c) ra) := ⟨((HA.out.mv (Stays.set (p := ⟨p, 1, none⟩) _ (fun t cells fr _ h => h rfl) (.bool false))).mv (Stays.any _ _)).ext hB0⟩
        have HB0 : As (RdV _ AnyB (.slice B rb.length d) rb) := ⟨((HB.out.mv (Stays.set (p := ⟨p, 1, none⟩) _ (fun t cells fr _ h => h rfl) (.bool false))).mv (Stays.any _ _)).ext hB0⟩
        obtain ⟨s4, s5⟩ := box2 (w1 := w.setCell ⟨p, 1, none⟩ (.bool false)) (n := w.heap.size) (by simp) (.slice A ra.length c) (.int .i64 ba) (.int .i64 na) (.slice B rb.length d) (.int .i64 bb) (.int .i64 nb) 83
        generalize (((w.setCell ⟨p, 1, none⟩ (.bool false)).alloc (.cells #[.slice A ra.length c, .int .i64 ba, .int .i64 na] 83)).alloc (.cells #[.slice B rb.length d, .int .i64 bb, .int .i64 nb] 83)) = W0 at *
        clear f0 f1 g0 g1 H1 H2 H4 HA HB HAT hB0
        obtain ⟨v', h1', h2', _, h4'⟩ := HD.out
        obtain ⟨f0', f1', hpl'⟩ := cells2 h1'
        have HBW0 : As (∀ k, W0.heap.size ≤ k → P k) := ⟨fun k hk => HBW.out k (Nat.le_trans HMD.out.size hk)⟩
        have HH1 := As.mk h1'
        have HH2 := As.mk h2'
        have HH4 := As.mk h4'
        have HCC := As.mk (concatR_any W0.heap.size A B c d ra rb (W0.drew.alloc (.cells #[.slice A ra.length c, .slice B rb.length d] 64)) (row2 W0.drew _ _ _).1 (row2 W0.drew _ _ _).2 (HA0.out.ext (Ext.alloc (Ext.drew (Ext.refl _)) _).below) (HB0.out.ext (Ext.alloc (Ext.drew (Ext.refl _)) _).below) hab)
        rw [hrc] at HCC
        have hbz0 : base ≤ W0.heap.size := Nat.le_trans h3 (Nat.le_of_lt hpl')
        have HE0 : As (Below W0.heap.size W0 (W0.drew.alloc (.cells #[.slice A ra.length c, .slice B rb.length d] 64))) := ⟨(Ext.alloc (Ext.drew (Ext.refl _)) _).below⟩
        clear h1' h2' h4'
        have hlz := hl
        go_region_law (first | (refine OwnL.append_step_at (W := w2) base rfl (.tmp 47) (.tmp 58) 34 66 _ 2 32 rfl Tryz.underlying34 info_entry rfl (by decide) (by decide) v' xs ⟨rc, dw⟩ [.slice A2 rc.length c2, .int .i64 dw] rfl rfl (E := EE w2 (Fresh base [96])) ⟨_, rfl, hidw, HU2.out⟩ rfl (by simp [Value.oneCell']) HO2.out (Below.refl base w2) hbz2 hlz rfl ?_; intro v3 w3 hown3 hb3 hg3 hat3; obtain ⟨A3, c3, rfl, hp3, hat, hm3⟩ := PAt.push HP2.out HO2.out h3 HH4.out HBW2.out hown3 hg3 hat3; obtain ⟨k0, k1, _⟩ := cells2 hp3; have kf := Lib.frozen_of_heap hp3 0; have HAT3 := As.mk hat; have HM3 := As.mk (HM2.out.trans hm3); clear hown3 hb3 hg3 hat3 hat hm3 hp3) | (go_simp; go_at_call 68; refine HCC.out.mono ?_; rintro e w2 ⟨u2, rfl, hu2, hB2⟩; obtain ⟨A2, c2, rfl, _⟩ := hu2.shape; have hB2 := HE0.out.trans (hB2.mono HE0.out.size); have f2' := bc hB2 f0'; have f3' := Ext.cell (Ext.alloc (Ext.refl w2) (.cells #[.slice A2 rc.length c2, .int .i64 dw] 66)) f2'; have HP2 := As.mk ((hB2.block p hpl').trans HH1.out); have HO2 := As.mk ((HH2.out.imp fun _ _ h => EE.mv h (Stays.below hB2 _)).below hB2); have HU2 := As.mk (hu2.mv (Stays.mono (ok' := Fresh base [96]) fun k t h => ⟨Nat.le_trans (Nat.le_trans hbz0 HE0.out.size) h.1, h.2⟩)); have HM2 := As.mk (HMD.out.ext hB2); have HBW2 : As (∀ k, w2.heap.size ≤ k → P k) := ⟨fun k hk => HBW0.out k (Nat.le_trans hB2.size hk)⟩; have hbz2 := Nat.le_trans hbz0 hB2.size; clear hu2 hB2))
        all_goals (go_wp2_with fail)
        all_goals (((try simp only [Exit.inBlock, Exit.then]); refine bodyPost_ret (results_none rfl _ _ _) rfl ?_))
        all_goals (exact HF.out _ HAT3.out HM3.out)
      · go_enter Tryz.func33, Tryz.ntmps33
        go_wp2_with (first | (go_at_call 67; (with_reducible refine (c1 _).mono ?_); rintro e w1 ⟨rfl, rfl⟩) | (go_at_call 67; (with_reducible refine (c2 _).mono ?_); rintro e w1 ⟨rfl, rfl⟩))
        have hB0 := (Ext.below (Ext.alloc (Ext.alloc (Ext.refl (w.setCell ⟨p, 1, none⟩ (.bool true))) (.cells #[.slice A ra.length c, .int .i64 ba, .int .i64 na] 83)) (.cells #[.slice B rb.length d, .int .i64 bb, .int .i64 nb] 83)))
        have HD := As.mk ((HAT.out.over true).ext hB0)
        have HMD := As.mk (((Mup.refl P p w).set 1 (.bool true)).ext hB0)
        have HA0 : As (RdV _ AnyB (.slice A ra.length c) ra) := ⟨((HA.out.mv (Stays.set (p := ⟨p, 1, none⟩) _ (fun t cells fr _ h => h rfl) (.bool true))).mv (Stays.any _ _)).ext hB0⟩
        have HB0 : As (RdV _ AnyB (.slice B rb.length d) rb) := ⟨((HB.out.mv (Stays.set (p := ⟨p, 1, none⟩) _ (fun t cells fr _ h => h rfl) (.bool true))).mv (Stays.any _ _)).ext hB0⟩
        obtain ⟨s4, s5⟩ := box2 (w1 := w.setCell ⟨p, 1, none⟩ (.bool true)) (n := w.heap.size) (by simp) (.slice A ra.length c) (.int .i64 ba) (.int .i64 na) (.slice B rb.length d) (.int .i64 bb) (.int .i64 nb) 83
        generalize (((w.setCell ⟨p, 1, none⟩ (.bool true)).alloc (.cells #[.slice A ra.length c, .int .i64 ba, .int .i64 na] 83)).alloc (.cells #[.slice B rb.length d, .int .i64 bb, .int .i64 nb] 83)) = W0 at *
        clear f0 f1 g0 g1 H1 H2 H4 HA HB HAT hB0
        obtain ⟨v', h1', h2', _, h4'⟩ := HD.out
        obtain ⟨f0', f1', hpl'⟩ := cells2 h1'
        have HBW0 : As (∀ k, W0.heap.size ≤ k → P k) := ⟨fun k hk => HBW.out k (Nat.le_trans HMD.out.size hk)⟩
        have HH1 := As.mk h1'
        have HH2 := As.mk h2'
        have HH4 := As.mk h4'
        have HCC := As.mk (concatR_any W0.heap.size A B c d ra rb (W0.drew.alloc (.cells #[.slice A ra.length c, .slice B rb.length d] 64)) (row2 W0.drew _ _ _).1 (row2 W0.drew _ _ _).2 (HA0.out.ext (Ext.alloc (Ext.drew (Ext.refl _)) _).below) (HB0.out.ext (Ext.alloc (Ext.drew (Ext.refl _)) _).below) hab)
        rw [hrc] at HCC
        have hbz0 : base ≤ W0.heap.size := Nat.le_trans h3 (Nat.le_of_lt hpl')
        have HE0 : As (Below W0.heap.size W0 (W0.drew.alloc (.cells #[.slice A ra.length c, .slice B rb.length d] 64))) := ⟨(Ext.alloc (Ext.drew (Ext.refl _)) _).below⟩
        clear h1' h2' h4'
        have hlz := hl
        go_region_law (first | (refine OwnL.append_step_at (W := w2) base rfl (.tmp 47) (.tmp 58) 34 66 _ 2 32 rfl Tryz.underlying34 info_entry rfl (by decide) (by decide) v' xs ⟨rc, dw⟩ [.slice A2 rc.length c2, .int .i64 dw] rfl rfl (E := EE w2 (Fresh base [96])) ⟨_, rfl, hidw, HU2.out⟩ rfl (by simp [Value.oneCell']) HO2.out (Below.refl base w2) hbz2 hlz rfl ?_; intro v3 w3 hown3 hb3 hg3 hat3; obtain ⟨A3, c3, rfl, hp3, hat, hm3⟩ := PAt.push HP2.out HO2.out h3 HH4.out HBW2.out hown3 hg3 hat3; obtain ⟨k0, k1, _⟩ := cells2 hp3; have kf := Lib.frozen_of_heap hp3 0; have HAT3 := As.mk hat; have HM3 := As.mk (HM2.out.trans hm3); clear hown3 hb3 hg3 hat3 hat hm3 hp3) | (go_simp; go_at_call 68; refine HCC.out.mono ?_; rintro e w2 ⟨u2, rfl, hu2, hB2⟩; obtain ⟨A2, c2, rfl, _⟩ := hu2.shape; have hB2 := HE0.out.trans (hB2.mono HE0.out.size); have f2' := bc hB2 f0'; have f3' := Ext.cell (Ext.alloc (Ext.refl w2) (.cells #[.slice A2 rc.length c2, .int .i64 dw] 66)) f2'; have HP2 := As.mk ((hB2.block p hpl').trans HH1.out); have HO2 := As.mk ((HH2.out.imp fun _ _ h => EE.mv h (Stays.below hB2 _)).below hB2); have HU2 := As.mk (hu2.mv (Stays.mono (ok' := Fresh base [96]) fun k t h => ⟨Nat.le_trans (Nat.le_trans hbz0 HE0.out.size) h.1, h.2⟩)); have HM2 := As.mk (HMD.out.ext hB2); have HBW2 : As (∀ k, w2.heap.size ≤ k → P k) := ⟨fun k hk => HBW0.out k (Nat.le_trans hB2.size hk)⟩; have hbz2 := Nat.le_trans hbz0 hB2.size; clear hu2 hB2))
        all_goals (go_wp2_with fail)
        all_goals (((try simp only [Exit.inBlock, Exit.then]); refine bodyPost_ret (results_none rfl _ _ _) rfl ?_))
        all_goals (exact HF.out _ HAT3.out HM3.out)
end Go.Proofs.YtflckpfpgpfjlaaGreatDoor
