/- Slices that a call makes itself: what they hold, appending to them, reading them. -/
import Derived.Test.YtmpndmjfdijamaaGreatDoorBase
set_option linter.unusedVariables false
set_option linter.unusedSimpArgs false
namespace Go.Proofs.YtmpndmjfdijamaaGreatDoor
open Go.RowKit Go.Sort
/-- xs's cells, one element behind the other. -/
def Reps {α : Type} (sz : Nat) (E : α → List Value → Prop) (xs : List α) (cs : List Value) : Prop :=
  cs.length = xs.length * sz ∧ ∀ j x, xs[j]? = some x → E x ((cs.drop (j * sz)).take sz)
theorem Reps.nil {α : Type} (sz : Nat) (E : α → List Value → Prop) : Reps sz E [] [] := ⟨by simp, fun j x h => by simp at h⟩
theorem Reps.snoc {α : Type} {sz : Nat} {E : α → List Value → Prop} {xs : List α} {cs c : List Value} {x : α} (h : Reps sz E xs cs) (hx : E x c) (hc : c.length = sz) : Reps sz E (xs ++ [x]) (cs ++ c) := by
  refine ⟨by rw [List.length_append, h.1, hc, List.length_append, List.length_singleton, Nat.add_mul, Nat.one_mul], fun j q hq => ?_⟩
  rcases Nat.lt_or_ge j xs.length with hj | hj
  · rw [List.getElem?_append_left hj] at hq
    have h1 : j * sz + sz ≤ cs.length := by rw [h.1, ← Nat.succ_mul]; exact Nat.mul_le_mul_right _ hj
    have h2 := h.2 j q hq
    rw [List.drop_append_of_le_length (by omega), List.take_append_of_le_length (by rw [List.length_drop]; omega)]
    exact h2
  · have hj' : j = xs.length := by
      have := (List.getElem?_eq_some_iff.1 hq).1
      rw [List.length_append, List.length_singleton] at this
      omega
    subst hj'
    have hq' : x = q := by simpa using hq
    subst hq'
    rw [← h.1, List.drop_left, ← hc, List.take_length]
    exact hx
theorem Reps.app {α : Type} {sz : Nat} {E : α → List Value → Prop} {xs ys : List α} {cs ds : List Value} (h : Reps sz E xs cs) (k : Reps sz E ys ds) : Reps sz E (xs ++ ys) (cs ++ ds) := by
  refine ⟨by rw [List.length_append, h.1, k.1, List.length_append, Nat.add_mul], fun j q hq => ?_⟩
  rcases Nat.lt_or_ge j xs.length with hj | hj
  · rw [List.getElem?_append_left hj] at hq
    have h1 : j * sz + sz ≤ cs.length := by rw [h.1, ← Nat.succ_mul]; exact Nat.mul_le_mul_right _ hj
    have h2 := h.2 j q hq
    rw [List.drop_append_of_le_length (by omega), List.take_append_of_le_length (by rw [List.length_drop]; omega)]
    exact h2
  · rw [List.getElem?_append_right hj] at hq
    have h2 := k.2 _ q hq
    have h3 : j * sz = cs.length + (j - xs.length) * sz := by rw [h.1, ← Nat.add_mul]; congr 1; omega
    rw [h3, List.drop_append, List.drop_eq_nil_of_le (by omega)]
    simpa using h2
theorem Reps.imp {α : Type} {sz : Nat} {E E' : α → List Value → Prop} {xs : List α} {cs : List Value} (h : Reps sz E xs cs) (hE : ∀ x c, E x c → E' x c) : Reps sz E' xs cs := ⟨h.1, fun j x hj => hE _ _ (h.2 j x hj)⟩
/-- The call's own slice v, from block base on, its elements of type e: it reads as xs. -/
def OwnL {α : Type} (sz : Nat) (E : α → List Value → Prop) (e : TypeId) (w : World) (base : Nat) (v : Value) (xs : List α) : Prop :=
  ∃ cs, w.ownsRow base e sz v xs.length cs ∧ Reps sz E xs cs ∧ (∀ u ∈ cs, u.oneCell' = true) ∧ xs.length ≤ 4294967296
section
variable {α : Type} {sz : Nat} {E E' : α → List Value → Prop} {e : TypeId} {w w' : World} {base : Nat} {v : Value} {xs : List α}
theorem OwnL.nil (sz : Nat) (E : α → List Value → Prop) (e : TypeId) (w : World) (base : Nat) : OwnL sz E e w base (.slice none 0 0) [] := ⟨[], World.ownsRow_nil _ _ _ _, Reps.nil _ _, by simp, by simp⟩
/-- make([]T, 0, c), and the empty literal. -/
theorem OwnL.made (sz : Nat) (E : α → List Value → Prop) (e : TypeId) (w : World) (base : Nat) (cur : Array Value) (cap : Nat) (hb : base ≤ w.heap.size) (hm : cap ≤ maxLen) (hs : cur.size = cap * sz) :
    OwnL sz E e (w.alloc (.cells cur e)) base (.slice (some ⟨w.heap.size, 0, none⟩) 0 cap) [] := ⟨[], World.ownsRow_made w cur cap hb hm hs, Reps.nil _ _, by simp, by simp⟩
theorem OwnL.imp (h : OwnL sz E e w base v xs) (hE : ∀ x c, E x c → E' x c) : OwnL sz E' e w base v xs := by
  obtain ⟨cs, ho, hr, h1, hl⟩ := h
  exact ⟨cs, ho, hr.imp hE, h1, hl⟩
theorem OwnL.lt (h : OwnL sz E e w base v xs) : ∀ k, v.ownBlock = some k → base ≤ k ∧ k < w.heap.size := by
  obtain ⟨cs, ho, hr, h1, hl⟩ := h
  exact ho.lt
theorem own_typed {w : World} {base : Nat} {e : TypeId} {size n : Nat} {v : Value} {xs : List Value} (h : w.ownsRow base e size v n xs) (k : Nat) (hk : v.ownBlock = some k) : ∃ cells, w.heap[k]? = some (.cells cells e (0, 0)) := by
  rcases h.2 with ⟨rfl, _⟩ | ⟨g, cap, cur, rfl, hg, hh, r⟩
  · simp [Value.ownBlock] at hk
  · have : g = k := by simpa [Value.ownBlock] using hk
    subst this
    exact ⟨cur, hh⟩
theorem OwnL.typed (h : OwnL sz E e w base v xs) (k : Nat) (hk : v.ownBlock = some k) : ∃ cells, w.heap[k]? = some (.cells cells e (0, 0)) := by
  obtain ⟨cs, ho, hr, h1, hl⟩ := h
  exact own_typed ho k hk
/-- Another row has been written (or none), or blocks have come. -/
theorem OwnL.kept {row : Option Nat} (h : OwnL sz E e w base v xs) (hg : w.grownBy w' row) (hne : v.ownBlock = none ∨ v.ownBlock ≠ row) : OwnL sz E e w' base v xs := by
  obtain ⟨cs, ho, hr, h1, hl⟩ := h
  exact ⟨cs, ho.kept hg hne, hr, h1, hl⟩
theorem grown_of_below {w w1 : World} (h : Below w.heap.size w w1) (row : Option Nat) : w.grownBy w1 row := ⟨h.os, h.tape, h.output, h.size, fun i hi _ => h.block i hi⟩
theorem OwnL.below (h : OwnL sz E e w base v xs) (hb : Below w.heap.size w w') : OwnL sz E e w' base v xs := h.kept (grown_of_below hb none) (by cases v.ownBlock <;> simp)
theorem OwnL.ext (h : OwnL sz E e w base v xs) (hb : Ext w w') : OwnL sz E e w' base v xs := h.below hb.below
theorem OwnL.alloc (h : OwnL sz E e w base v xs) (o : Obj) : OwnL sz E e (w.alloc o) base v xs := h.ext (Ext.alloc (Ext.refl _) o)
theorem OwnL.len (h : OwnL sz E e w base v xs) : xs.length ≤ 4294967296 := by
  obtain ⟨cs, ho, hr, h1, hl⟩ := h
  exact hl
/-- It is read. -/
theorem OwnL.rd (h : OwnL sz E e w base v xs) {ok : Blk} (hok : ∀ k, base ≤ k → ok k e) : RdL sz E w ok v xs := by
  obtain ⟨cs, ho, hr, h1, hl⟩ := h
  rcases ho.2 with ⟨rfl, hn⟩ | ⟨g, cap, cur, rfl, hb, hh, hc, _, hs, ht⟩
  · obtain rfl : xs = [] := List.eq_nil_of_length_eq_zero hn
    exact RdL.nil _ _ _ _
  · refine ⟨_, cap, rfl, hc, hl, fun hne => ⟨g, 0, cur, e, (0, 0), rfl, Okf.soft (hok g hb), hh, fun j x hj => ?_⟩⟩
    have hjl := (List.getElem?_eq_some_iff.1 hj).1
    have hb1 : j * sz + sz ≤ cs.length := by rw [hr.1, ← Nat.succ_mul]; exact Nat.mul_le_mul_right _ hjl
    refine ⟨(cs.drop (j * sz)).take sz, by rw [List.length_take, List.length_drop]; omega, hr.2 j x hj, fun u hu => h1 u (List.mem_of_mem_drop (List.mem_of_mem_take hu)), fun i u hu => ?_⟩
    rw [List.getElem?_take] at hu
    split at hu
    · rw [List.getElem?_drop, ← ht, List.getElem?_take] at hu
      split at hu
      · rw [Nat.zero_add, ← Array.getElem?_toList]; exact hu
      · cases hu
    · cases hu
theorem OwnL.shape (h : OwnL sz E e w base v xs) : ∃ A c, v = .slice A xs.length c ∧ xs.length ≤ c := (h.rd (ok := AnyB) fun _ _ => trivial).shape
end
/-- The cells of a slice that is read, as one list. -/
theorem RdL.flat {α : Type} {sz : Nat} {E : α → List Value → Prop} {w : World} {ok : Blk} {A : Option Addr} {n c : Nat} {xs : List α} (h : RdL sz E w ok (.slice A n c) xs) (hn : 0 < xs.length) :
    ∃ ad cs, A = some ad ∧ Reps sz E xs cs ∧ (∀ u ∈ cs, u.oneCell' = true) ∧ ∀ j u, cs[j]? = some u → w.cell? (ad.add j) = some u := by
  obtain ⟨A', c', hv, hc, h0⟩ := h.cells
  injection hv with h1 h2 h3
  subst h1 h2 h3
  obtain ⟨b, o, rfl, hx⟩ := h0 (by rintro rfl; simp at hn)
  have key : ∀ m, m ≤ xs.length → ∃ cs, Reps sz E (xs.take m) cs ∧ (∀ u ∈ cs, u.oneCell' = true) ∧ ∀ j u, cs[j]? = some u → w.cell? ⟨b, o + j, none⟩ = some u := by
    intro m
    induction m with
    | zero => intro _; exact ⟨[], by simpa using Reps.nil sz E, by simp, by simp⟩
    | succ m ih =>
      intro hm
      obtain ⟨cs, h1, h2, h3⟩ := ih (by omega)
      obtain ⟨cs', e1, e2, e3, e4⟩ := hx m xs[m] (List.getElem?_eq_getElem (by omega))
      refine ⟨cs ++ cs', ?_, fun u hu => ?_, fun j u hj => ?_⟩
      · rw [List.take_succ_eq_append_getElem (by omega)]
        exact h1.snoc e2 e1
      · rcases List.mem_append.1 hu with hu | hu
        · exact h2 u hu
        · exact e3 u hu
      · rcases Nat.lt_or_ge j cs.length with hl | hl
        · rw [List.getElem?_append_left hl] at hj; exact h3 j u hj
        · rw [List.getElem?_append_right hl] at hj
          have := e4 _ u hj
          have hcl : cs.length = m * sz := by rw [h1.1, List.length_take]; congr 1; omega
          rwa [show o + m * sz + (j - cs.length) = o + j by omega] at this
  obtain ⟨cs, h1, h2, h3⟩ := key xs.length (Nat.le_refl _)
  rw [List.take_length] at h1
  refine ⟨⟨b, o, none⟩, cs, rfl, h1, h2, fun j u hj => ?_⟩
  have := h3 j u hj
  unfold Addr.add
  split
  · subst_vars; exact this
  · exact this
section
variable {P : Program} {ops : Array Oper} {rest : List Oper} {o : Oper} {a : Act} {Q : Exit → Act → World → Prop} {α : Type} {E : α → List Value → Prop}
/-- append(v, x): x's cells are cs, in the block that the literal of one element has just laid. E is that of the world ahead: move it over the growth. -/
theorem OwnL.append {w0 W W' : World} (base : Nat) (hgd : o.guard = none) (s x : Operand) (t e : TypeId) (z : Value) (sz bytes : Nat)
    (ho : o.op = .call { callee := .builtin .append, args := #[s, x], argTypes := #[t, t] })
    (ht : P.underlying t = some (.slice e)) (hinfo : (P.info? e).map (fun i => (i.zero, i.size, i.bytes)) = some (some z, sz, bytes)) (hz : z.cells.size = sz) (hs0 : 0 < sz) (hb0 : bytes ≤ 32768)
    (v : Value) (ps : List α) (p : α) (cs : List Value) (hs : a.eval s = v) (hx : a.eval x = .slice (some ⟨W.heap.size, 0, none⟩) 1 1) (hp : E p cs) (hcs : cs.length = sz) (h1 : ∀ u ∈ cs, u.oneCell' = true)
    (HO : OwnL sz E e W base v ps) (HB : Below base w0 W) (hbase : base ≤ W.heap.size) (hl : ps.length < 4294967296) (hW : W' = W.alloc (.cells cs.toArray e))
    (h : ∀ v1 w1, OwnL sz E e w1 base v1 (ps ++ [p]) → Below base w0 w1 → W.grownBy w1 v.ownBlock → (v1.ownBlock = v.ownBlock ∨ ∃ b, v1.ownBlock = some b ∧ W.heap.size ≤ b) → wpList P ops Q rest (a.put o.dst v1) w1) :
    wpList P ops Q (o :: rest) a W' := by
  subst hW
  obtain ⟨inner, hown, hr, h1', hlen⟩ := HO
  obtain ⟨i0, hi, hzz⟩ := Option.map_eq_some_iff.1 hinfo
  simp only [Prod.mk.injEq] at hzz
  obtain ⟨hz0, hz1, hz2⟩ := hzz
  have hbd : (ps.length + 1) * bytes ≤ 140737488355328 := Nat.le_trans (Nat.mul_le_mul (show ps.length + 1 ≤ 4294967296 by omega) hb0) (by decide)
  refine wpList_append_own_at (W.alloc (.cells cs.toArray e)) hgd s x t ho base e i0 z sz bytes ht hi hz0 hz1 hz2 hz hs0 v ps.length inner hs (hown.alloc _) ⟨W.heap.size, 0, none⟩ 1 1 cs hx (by rw [hcs]; simp)
    (by simpa using World.news_of_block (cs := cs.toArray) (t := e) (fr := (0, 0)) (heap_alloc_new W (.cells cs.toArray e))) h1 (by simp only [maxLen]; omega) hbd (by simp; omega) ?_
  intro v1 w1 hown1 hg _ hat
  refine h v1 w1 ⟨inner ++ cs, by rw [List.length_append, List.length_singleton]; exact hown1, hr.snoc hp hcs, fun u hu => ?_, by simp; omega⟩ ((HB.alloc hbase _).grown hg (by simp; omega) fun k hk => (hown.lt k hk).1) (World.grownBy.trans (World.grownBy_alloc W _ _) hg) ?_
  · rcases List.mem_append.1 hu with hu | hu
    · exact h1' u hu
    · exact h1 u hu
  · rcases hat with hat | hat
    · exact .inl hat
    · exact .inr ⟨_, hat, by simp⟩
/-- The same as one step of a region that draws its order; the world's spelling is open. -/
theorem OwnL.append_step {w0 W W' : World} {K : Act → World → Prop} {F : Prop} (base : Nat) (hgd : o.guard = none) (s x : Operand) (t e : TypeId) (z : Value) (sz bytes : Nat)
    (ho : o.op = .call { callee := .builtin .append, args := #[s, x], argTypes := #[t, t] })
    (ht : P.underlying t = some (.slice e)) (hinfo : (P.info? e).map (fun i => (i.zero, i.size, i.bytes)) = some (some z, sz, bytes)) (hz : z.cells.size = sz) (hs0 : 0 < sz) (hb0 : bytes ≤ 32768)
    (v : Value) (ps : List α) (p : α) (cs : List Value) (hs : a.eval s = v) (hx : a.eval x = .slice (some ⟨W.heap.size, 0, none⟩) 1 1) (hp : E p cs) (hcs : cs.length = sz) (h1 : ∀ u ∈ cs, u.oneCell' = true)
    (HO : OwnL sz E e W base v ps) (HB : Below base w0 W) (hbase : base ≤ W.heap.size) (hl : ps.length < 4294967296) (hW : W' = W.alloc (.cells cs.toArray e))
    (h : ∀ v1 w1, OwnL sz E e w1 base v1 (ps ++ [p]) → Below base w0 w1 → W.grownBy w1 v.ownBlock → K (a.put o.dst v1) w1) :
    if Region.wanted o (yielded ops a.tmps) = true then Oper.wp P o a W' K Q else F := by
  subst hW
  obtain ⟨inner, hown, hr, h1', hlen⟩ := HO
  obtain ⟨i0, hi, hzz⟩ := Option.map_eq_some_iff.1 hinfo
  simp only [Prod.mk.injEq] at hzz
  obtain ⟨hz0, hz1, hz2⟩ := hzz
  have hbd : (ps.length + 1) * bytes ≤ 140737488355328 := Nat.le_trans (Nat.mul_le_mul (show ps.length + 1 ≤ 4294967296 by omega) hb0) (by decide)
  rw [if_pos (by simp [Region.wanted, hgd])]
  obtain ⟨v1, w1, hrun, hown1, hg, _, hat⟩ := run_append_own_at (P := P) (W.alloc (.cells cs.toArray e)) base t o.type e i0 z sz bytes ht hi hz0 hz1 hz2 hz hs0 v ps.length inner (hown.alloc _) ⟨W.heap.size, 0, none⟩ 1 1 cs (by rw [hcs]; simp)
    (by simpa using World.news_of_block (cs := cs.toArray) (t := e) (fr := (0, 0)) (heap_alloc_new W (.cells cs.toArray e))) h1 (by simp only [maxLen]; omega) hbd (by simp; omega)
  unfold Oper.wp execOp
  simp only [ho, resolve, invoke, builtin, Sem.run_bind, Sem.run_pure, Result.andThen_ok, List.map_toArray, List.map_cons, List.map_nil, hs, hx, hrun]
  refine h v1 w1 ⟨inner ++ cs, by rw [List.length_append, List.length_singleton]; exact hown1, hr.snoc hp hcs, fun u hu => ?_, by simp; omega⟩ ((HB.alloc hbase _).grown hg (by simp; omega) fun k hk => (hown.lt k hk).1) (World.grownBy.trans (World.grownBy_alloc W _ _) hg)
  rcases List.mem_append.1 hu with hu | hu
  · exact h1' u hu
  · exact h1 u hu
/-- append(v, ys...): ys a slice that is read. -/
theorem run_appends {W : World} (base : Nat) (t ty e : TypeId) (z : Value) (sz bytes : Nat)
    (ht : P.underlying t = some (.slice e)) (hinfo : (P.info? e).map (fun i => (i.zero, i.size, i.bytes)) = some (some z, sz, bytes)) (hz : z.cells.size = sz) (hs0 : 0 < sz) (hb0 : bytes ≤ 32768)
    (v : Value) (ps ys : List α) (A : Option Addr) (n c : Nat) {ok : Blk} (hy : RdL sz E W ok (.slice A n c) ys)
    (HO : OwnL sz E e W base v ps) (hbase : base ≤ W.heap.size) (hl : ps.length + ys.length ≤ 4294967296) :
    ∃ v1 w1, (Builtin.append_ #[t, t] ty #[v, .slice A n c]).run P W = .ok v1 w1 ∧ OwnL sz E e w1 base v1 (ps ++ ys) ∧ W.grownBy w1 v.ownBlock ∧ (v1.ownBlock = v.ownBlock ∨ v1.ownBlock = some W.heap.size) := by
  obtain ⟨inner, hown, hr, h1', hlen⟩ := HO
  obtain ⟨i0, hi, hzz⟩ := Option.map_eq_some_iff.1 hinfo
  simp only [Prod.mk.injEq] at hzz
  obtain ⟨hz0, hz1, hz2⟩ := hzz
  have hn : n = ys.length := by obtain ⟨A', c', hv, _⟩ := hy.shape; injection hv
  subst hn
  have hbd : (ps.length + ys.length) * bytes ≤ 140737488355328 := Nat.le_trans (Nat.mul_le_mul hl hb0) (by decide)
  rcases A with _ | ad
  · have h0 : ys = [] := by
      rcases Nat.eq_zero_or_pos ys.length with h0 | h0
      · exact List.eq_nil_of_length_eq_zero h0
      · obtain ⟨ad, cs, h, _⟩ := hy.flat h0
        cases h
    subst h0
    refine ⟨v, W, ?_, ⟨inner, by simpa using hown, by simpa using hr, h1', by simpa using hlen⟩, ⟨rfl, rfl, rfl, Nat.le_refl _, fun _ _ _ => rfl⟩, .inl rfl⟩
    rcases hown.2 with ⟨rfl, hn⟩ | ⟨g, cap, cur, rfl, _, _, hnc, _⟩
    · simp [Builtin.append_, run_underlying ht, Go.sizeOf, typeInfo, hi, Builtin.lenOf, Builtin.firstCells]
    · simp [Builtin.append_, run_underlying ht, Go.sizeOf, typeInfo, hi, Builtin.lenOf, Builtin.firstCells, hnc, storeCells]
  · have hf : ∃ cs, Reps sz E ys cs ∧ (∀ u ∈ cs, u.oneCell' = true) ∧ ∀ j u, cs[j]? = some u → W.cell? (ad.add j) = some u := by
      rcases Nat.eq_zero_or_pos ys.length with h0 | h0
      · obtain rfl : ys = [] := List.eq_nil_of_length_eq_zero h0
        exact ⟨[], Reps.nil _ _, by simp, by simp⟩
      · obtain ⟨ad', cs, h, hr⟩ := hy.flat h0
        injection h with h
        subst h
        exact ⟨cs, hr⟩
    obtain ⟨cs, hrep, h1, hcell⟩ := hf
    obtain ⟨v1, w1, hrun, h2, h3, _, h5⟩ := run_append_own_at (P := P) W base t ty e i0 z sz bytes ht hi hz0 hz1 hz2 hz hs0 v ps.length inner hown ad ys.length c cs hrep.1 hcell h1 (by simp only [maxLen]; omega) hbd hbase
    refine ⟨v1, w1, hrun, ⟨inner ++ cs, by rw [List.length_append]; exact h2, hr.app hrep, fun u hu => ?_, by simpa using hl⟩, h3, h5⟩
    rcases List.mem_append.1 hu with hu | hu
    · exact h1' u hu
    · exact h1 u hu
theorem OwnL.appends {w0 W : World} (base : Nat) (hgd : o.guard = none) (s x : Operand) (t e : TypeId) (z : Value) (sz bytes : Nat)
    (ho : o.op = .call { callee := .builtin .append, args := #[s, x], argTypes := #[t, t] })
    (ht : P.underlying t = some (.slice e)) (hinfo : (P.info? e).map (fun i => (i.zero, i.size, i.bytes)) = some (some z, sz, bytes)) (hz : z.cells.size = sz) (hs0 : 0 < sz) (hb0 : bytes ≤ 32768)
    (v : Value) (ps ys : List α) (A : Option Addr) (n c : Nat) (hs : a.eval s = v) (hx : a.eval x = .slice A n c) {ok : Blk} (hy : RdL sz E W ok (.slice A n c) ys)
    (HO : OwnL sz E e W base v ps) (HB : Below base w0 W) (hbase : base ≤ W.heap.size) (hl : ps.length + ys.length ≤ 4294967296)
    (h : ∀ v1 w1, OwnL sz E e w1 base v1 (ps ++ ys) → Below base w0 w1 → W.grownBy w1 v.ownBlock → (v1.ownBlock = v.ownBlock ∨ v1.ownBlock = some W.heap.size) → wpList P ops Q rest (a.put o.dst v1) w1) :
    wpList P ops Q (o :: rest) a W := by
  obtain ⟨v1, w1, hr, hown, hg, hat⟩ := run_appends (P := P) base t o.type e z sz bytes ht hinfo hz hs0 hb0 v ps ys A n c hy HO hbase hl
  refine wpList_plain hgd fun K hK => ?_
  unfold Oper.wp execOp
  simp only [ho, resolve, invoke, builtin, Sem.run_bind, Sem.run_pure, Result.andThen_ok, List.map_toArray, List.map_cons, List.map_nil, hs, hx, hr]
  exact hK _ _ (h v1 w1 hown (HB.grown hg hbase fun k hk => (HO.lt k hk).1) hg hat)
end
end Go.Proofs.YtmpndmjfdijamaaGreatDoor
