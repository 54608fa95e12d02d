/- A call's own slice: stores into its elements, copying within it. -/
import Derived.Test.YtmpndmjfdijamaaGreatDoorCut
import Derived.Laws.OwnMore
import Derived.Laws.CopyRow
import Derived.Laws.IdiomCopy
set_option linter.unusedVariables false
set_option linter.unusedSimpArgs false
namespace Go.Proofs.YtmpndmjfdijamaaGreatDoor
open Go.RowKit Go.Sort
section
variable {α : Type} {sz : Nat} {E : α → List Value → Prop} {xs ys : List α} {cs ds : List Value}
theorem Reps.take (h : Reps sz E xs cs) (i : Nat) (hi : i ≤ xs.length) : Reps sz E (xs.take i) (cs.take (i * sz)) := by
  have hm : i * sz ≤ xs.length * sz := Nat.mul_le_mul_right _ hi
  refine ⟨by rw [List.length_take, h.1, List.length_take]; rw [Nat.min_eq_left hm, Nat.min_eq_left hi], fun j x hj => ?_⟩
  rw [List.getElem?_take] at hj
  split at hj
  · next hl =>
    have hb : j * sz + sz ≤ i * sz := by rw [← Nat.succ_mul]; exact Nat.mul_le_mul_right _ hl
    rw [List.drop_take, List.take_take, Nat.min_eq_left (by omega)]
    exact h.2 j x hj
  · cases hj
theorem Reps.drop (h : Reps sz E xs cs) (i : Nat) : Reps sz E (xs.drop i) (cs.drop (i * sz)) := by
  refine ⟨by rw [List.length_drop, h.1, List.length_drop, Nat.sub_mul], fun j x hj => ?_⟩
  rw [List.getElem?_drop] at hj
  rw [List.drop_drop, ← Nat.add_mul]
  exact h.2 _ x hj
theorem Reps.set3 {E : α → List Value → Prop} {cs : List Value} (h : Reps 3 E xs cs) {j : Nat} {x : α} {a b c : Value} (hj : j < xs.length) (hx : E x [a, b, c]) : Reps 3 E (xs.set j x) (((cs.set (j * 3) a).set (j * 3 + 1) b).set (j * 3 + 2) c) := by
  refine ⟨by simp [h.1], fun i y hi => ?_⟩
  have hl := h.1
  rw [List.getElem?_set] at hi
  split at hi
  · next e =>
    subst e
    injection hi with hi
    subst hi
    have : ((((cs.set (j * 3) a).set (j * 3 + 1) b).set (j * 3 + 2) c).drop (j * 3)).take 3 = [a, b, c] := by
      apply List.ext_getElem?
      intro k
      simp only [List.getElem?_take, List.getElem?_drop, List.getElem?_set, List.length_set]
      by_cases hk : k < 3
      · rcases (show k = 0 ∨ k = 1 ∨ k = 2 by omega) with rfl | rfl | rfl
        all_goals simp <;> omega
      · rw [if_neg hk, List.getElem?_eq_none (by simp; omega)]
    rw [this]; exact hx
  · next e =>
    have hil := (List.getElem?_eq_some_iff.1 hi).1
    have : ((((cs.set (j * 3) a).set (j * 3 + 1) b).set (j * 3 + 2) c).drop (i * 3)).take 3 = (cs.drop (i * 3)).take 3 := by
      apply List.ext_getElem?
      intro k
      simp only [List.getElem?_take, List.getElem?_drop, List.getElem?_set, List.length_set]
      by_cases hk : k < 3
      · rw [if_pos hk, if_pos hk, if_neg (by omega), if_neg (by omega), if_neg (by omega)]
      · rw [if_neg hk, if_neg hk]
    rw [this]; exact h.2 i y hi
theorem OwnL.set3 {E : α → List Value → Prop} {e : TypeId} {w : World} {base g n c : Nat} (h : OwnL 3 E e w base (.slice (some ⟨g, 0, none⟩) n c) xs) {j : Nat} {x : α} {a b d : Value} (hj : j < xs.length) (hx : E x [a, b, d]) (h1 : a.oneCell' = true ∧ b.oneCell' = true ∧ d.oneCell' = true) :
    OwnL 3 E e (((w.setCell ⟨g, j * 3, none⟩ a).setCell ⟨g, j * 3 + 1, none⟩ b).setCell ⟨g, j * 3 + 2, none⟩ d) base (.slice (some ⟨g, 0, none⟩) n c) (xs.set j x) ∧
    w.grownBy (((w.setCell ⟨g, j * 3, none⟩ a).setCell ⟨g, j * 3 + 1, none⟩ b).setCell ⟨g, j * 3 + 2, none⟩ d) (some g) := by
  obtain ⟨cs, ho, hr, hone, hl⟩ := h
  have hn : n = xs.length := by
    rcases ho.2 with ⟨hv, _⟩ | ⟨_, _, _, hv, _⟩
    · injection hv with h1; cases h1
    · injection hv
  subst hn
  obtain ⟨o1, g1⟩ := ho.stored (j * 3) a
  obtain ⟨o2, g2⟩ := o1.stored (j * 3 + 1) b
  obtain ⟨o3, g3⟩ := o2.stored (j * 3 + 2) d
  refine ⟨⟨_, by simpa using o3, hr.set3 hj hx, fun u hu => ?_, by simpa using hl⟩, (g1.trans g2).trans g3⟩
  rcases List.mem_or_eq_of_mem_set hu with hu | rfl
  · rcases List.mem_or_eq_of_mem_set hu with hu | rfl
    · rcases List.mem_or_eq_of_mem_set hu with hu | rfl
      · exact hone u hu
      · exact h1.1
    · exact h1.2.1
  · exact h1.2.2
/-- copy within one row. -/
theorem run_copy_sz {P : Program} (w : World) (dT sT ty elem : TypeId) (i : TypeInfo) (g o dLen dCap : Nat) (a : Addr) (sLen sCap : Nat) (cur : Array Value) (t : TypeId) (cs : List Value)
    (hu : P.underlying dT = some (.slice elem)) (hi : P.info? elem = some i)
    (hg : w.heap[g]? = some (.cells cur t (0, 0))) (hn : cs.length = Nat.min sLen dLen * i.size)
    (hsrc : ∀ j v, cs[j]? = some v → w.cell? (a.add j) = some v) (hfit : o + cs.length ≤ cur.size) (h1 : ∀ v ∈ cs, v.oneCell' = true) :
    (Builtin.copy_ #[dT, sT] ty #[.slice (some ⟨g, o, none⟩) dLen dCap, .slice (some a) sLen sCap]).run P w =
      .ok (goInt (Nat.min sLen dLen)) (w.setRow g (cur.toList.take o ++ cs ++ cur.toList.drop (o + cs.length)).toArray) := by
  have hl := run_loadCells_list (P := P) w a cs hsrc
  have hst := run_storeCells_at P g o t cs 0 cur w hg (by simpa using hfit) h1
  simp only [Nat.add_zero] at hst
  simp [Builtin.copy_, run_underlying hu, Builtin.lenOf, Builtin.firstCells, Go.sizeOf, typeInfo, hi, ← hn, hl, hst]
end
section
variable {P : Program} {ops : Array Oper} {o : Oper} {a : Act} {Q : Exit → Act → World → Prop} {α : Type} {sz : Nat} {E : α → List Value → Prop} {xs : List α}
theorem OwnL.copied {e : TypeId} {w : World} {base g n c : Nat} (h : OwnL sz E e w base (.slice (some ⟨g, 0, none⟩) n c) xs) (i j m : Nat) (him : i + m ≤ xs.length) (hjm : j + m ≤ xs.length) :
    ∃ (cur : Array Value) (cs : List Value), w.heap[g]? = some (.cells cur e (0, 0)) ∧ cs.length = m * sz ∧ (∀ k u, cs[k]? = some u → w.cell? ((⟨g, j * sz, none⟩ : Addr).add k) = some u) ∧ i * sz + cs.length ≤ cur.size ∧ (∀ u ∈ cs, u.oneCell' = true) ∧
      OwnL sz E e (w.setRow g (cur.toList.take (i * sz) ++ cs ++ cur.toList.drop (i * sz + cs.length)).toArray) base (.slice (some ⟨g, 0, none⟩) n c) (xs.take i ++ (xs.drop j).take m ++ xs.drop (i + m)) ∧ base ≤ g := by
  obtain ⟨cs, ho, hr, hone, hl⟩ := h
  rcases ho.2 with ⟨hv, _⟩ | ⟨g', cap, cur, hv, hb, hh, hc, hm, hs, htk⟩
  · cases hv
  injection hv with h1 h2 h3
  injection h1 with h1
  injection h1 with h1 _ _
  subst h1 h2 h3
  have hx0 : xs.length * sz ≤ cur.size := by rw [hs]; exact Nat.mul_le_mul_right _ hc
  have e1 : i * sz + m * sz ≤ xs.length * sz := by rw [← Nat.add_mul]; exact Nat.mul_le_mul_right _ him
  have e2 : j * sz + m * sz ≤ xs.length * sz := by rw [← Nat.add_mul]; exact Nat.mul_le_mul_right _ hjm
  have hlen : ((cs.drop (j * sz)).take (m * sz)).length = m * sz := by rw [List.length_take, List.length_drop, hr.1]; omega
  have hcs : ∀ k, k < xs.length * sz → cur[k]? = cs[k]? := fun k hk => by rw [← htk, List.getElem?_take, if_pos hk, Array.getElem?_toList]
  refine ⟨cur, (cs.drop (j * sz)).take (m * sz), hh, hlen, fun k u hu => ?_, by rw [hlen]; omega, fun u hu => hone u (List.mem_of_mem_drop (List.mem_of_mem_take hu)), ?_, hb⟩
  · rw [List.getElem?_take] at hu
    split at hu
    · rw [List.getElem?_drop] at hu
      rw [add_lit, cell_of_row w g _ cur e (0, 0) hh, hcs _ (by omega)]
      exact hu
    · cases hu
  · have hxl : (xs.take i ++ (xs.drop j).take m ++ xs.drop (i + m)).length = xs.length := by simp only [List.length_append, List.length_take, List.length_drop]; omega
    have hrep : Reps sz E (xs.take i ++ (xs.drop j).take m ++ xs.drop (i + m)) (cs.take (i * sz) ++ (cs.drop (j * sz)).take (m * sz) ++ cs.drop ((i + m) * sz)) :=
      ((hr.take i (by omega)).app ((hr.drop j).take m (by rw [List.length_drop]; omega))).app (hr.drop _)
    refine ⟨_, ?_, hrep, fun u hu => ?_, by rw [hxl]; exact hl⟩
    · rw [hxl]
      refine ⟨by rw [hrep.1, hxl], .inr ⟨g, c, _, rfl, hb, setRow_heap w g cur _ e (0, 0) hh, hc, hm, ?_, ?_⟩⟩
      · simp only [List.size_toArray, List.length_append, hlen, List.length_take, List.length_drop, Array.length_toList]; omega
      · have t1 : cs.take (i * sz) = cur.toList.take (i * sz) := by rw [← htk, List.take_take, Nat.min_eq_left (by omega)]
        have hAB : (cur.toList.take (i * sz) ++ (cs.drop (j * sz)).take (m * sz)).length = i * sz + m * sz := by rw [List.length_append, hlen, List.length_take, Array.length_toList]; omega
        have e3 : xs.length * sz = (cur.toList.take (i * sz) ++ (cs.drop (j * sz)).take (m * sz)).length + (xs.length * sz - (i * sz + m * sz)) := by rw [hAB]; omega
        rw [hlen, t1, Nat.add_mul]
        conv => lhs; rw [e3]
        show List.take _ _ = _
        rw [List.take_length_add_append]
        congr 1
        rw [← htk, List.drop_take]
    · rcases List.mem_append.1 hu with hu | hu
      · rcases List.mem_append.1 hu with hu | hu
        · exact hone u (List.mem_of_mem_take hu)
        · exact hone u (List.mem_of_mem_drop (List.mem_of_mem_take hu))
      · exact hone u (List.mem_of_mem_drop hu)
theorem setRow_grown (w : World) (g : Nat) (cs : Array Value) : w.grownBy (w.setRow g cs) (some g) := ⟨rfl, rfl, rfl, by simp, fun k _ hk => setRow_other w g k cs (fun e => hk (by simp [e]))⟩
/-- copy(v[i:], v[j:]) as one step of a region that draws its order. -/
theorem OwnL.copy_step {w0 w : World} {K : Act → World → Prop} {F : Prop} (base : Nat) (hgd : o.guard = none) (d s : Operand) (t e : TypeId) (ti : TypeInfo)
    (ho : o.op = .call { callee := .builtin .copy, args := #[d, s], argTypes := #[t, t] }) (ht : P.underlying t = some (.slice e)) (hi : P.info? e = some ti) (hsz : ti.size = sz)
    (g n c : Nat) (xs : List α) (i j m : Nat) (D S : Option Addr) (dl dc sl sc : Nat) (hd : a.eval d = .slice D dl dc) (hD : 0 < m → D = some ⟨g, i * sz, none⟩) (hs : a.eval s = .slice S sl sc) (hS : 0 < m → S = some ⟨g, j * sz, none⟩) (hm : m = Nat.min sl dl)
    (him : i + m ≤ xs.length) (hjm : j + m ≤ xs.length) (HO : OwnL sz E e w base (.slice (some ⟨g, 0, none⟩) n c) xs) (HB : Below base w0 w)
    (h : ∀ w1, OwnL sz E e w1 base (.slice (some ⟨g, 0, none⟩) n c) (xs.take i ++ (xs.drop j).take m ++ xs.drop (i + m)) → Below base w0 w1 → w.grownBy w1 (some g) → K (a.put o.dst (goInt m)) w1) :
    if Region.wanted o (yielded ops a.tmps) = true then Oper.wp P o a w K Q else F := by
  rw [if_pos (by simp [Region.wanted, hgd])]
  obtain ⟨cur, cs, h1, h2, h3, h4, h5, h6, h7⟩ := HO.copied i j m him hjm
  subst hsz
  rcases Nat.eq_zero_or_pos m with h0 | h0
  · subst h0
    have hrun : (Builtin.copy_ #[t, t] o.type #[.slice D dl dc, .slice S sl sc]).run P w = .ok (goInt 0) w := by
      have hz : Nat.min sl dl = 0 := hm.symm
      cases D <;> cases S <;> simp [Builtin.copy_, run_underlying ht, Builtin.lenOf, Builtin.firstCells, Go.sizeOf, typeInfo, hi, hz, loadCells, loadCellsFrom, storeCells]
    have hsame : xs.take i ++ (xs.drop j).take 0 ++ xs.drop (i + 0) = xs := by simp
    rw [hsame] at h
    unfold Oper.wp execOp
    simp only [ho, resolve, invoke, builtin, Sem.run_bind, Sem.run_pure, Result.andThen_ok, List.map_toArray, List.map_cons, List.map_nil, hd, hs, hrun]
    exact h w HO HB ⟨rfl, rfl, rfl, Nat.le_refl _, fun _ _ _ => rfl⟩
  · rw [hD h0] at hd
    rw [hS h0] at hs
    have hrun := run_copy_sz (P := P) w t t o.type e ti g (i * ti.size) dl dc ⟨g, j * ti.size, none⟩ sl sc cur e cs ht hi h1 (by rw [h2, hm]) h3 h4 h5
    rw [← hm] at hrun
    unfold Oper.wp execOp
    simp only [ho, resolve, invoke, builtin, Sem.run_bind, Sem.run_pure, Result.andThen_ok, List.map_toArray, List.map_cons, List.map_nil, hd, hs, hrun]
    exact h _ h6 (HB.trans ⟨rfl, rfl, rfl, by simp, fun k hk => setRow_other w g k _ (by omega)⟩) (setRow_grown w g _)
end
/-- append's second type counts only where it is a number's. -/
theorem append_types {P : Program} {t t2 e e2 ty : TypeId} (ht : P.underlying t = some (.slice e)) (ht2 : P.underlying t2 = some (.slice e2)) (v x : Value) (w : World) :
    (Builtin.append_ #[t, t2] ty #[v, x]).run P w = (Builtin.append_ #[t, t] ty #[v, x]).run P w := by
  have h0 : (#[t, t2] : Array TypeId)[0]? = some t := rfl
  have h1 : (#[t, t2] : Array TypeId)[1]? = some t2 := rfl
  have h2 : (#[t, t] : Array TypeId)[0]? = some t := rfl
  have h3 : (#[t, t] : Array TypeId)[1]? = some t := rfl
  unfold Builtin.append_
  cases v <;> simp [run_underlying ht, run_underlying ht2, Sem.run_bind]
section
variable {P : Program} {ops : Array Oper} {rest : List Oper} {o : Oper} {a : Act} {Q : Exit → Act → World → Prop} {α : Type} {E : α → List Value → Prop}
/-- append(v, ys...): ys a slice of another slice type. -/
theorem OwnL.appends2 {w0 W : World} (base : Nat) (hgd : o.guard = none) (s x : Operand) (t t2 e e2 : TypeId) (z : Value) (sz bytes : Nat)
    (ho : o.op = .call { callee := .builtin .append, args := #[s, x], argTypes := #[t, t2] })
    (ht : P.underlying t = some (.slice e)) (ht2 : P.underlying t2 = some (.slice e2)) (hinfo : (P.info? e).map (fun i => (i.zero, i.size, i.bytes)) = some (some z, sz, bytes)) (hz : z.cells.size = sz) (hs0 : 0 < sz) (hb0 : bytes ≤ 32768)
    (v : Value) (ps ys : List α) (A : Option Addr) (n c : Nat) (hs : a.eval s = v) (hx : a.eval x = .slice A n c) {ok : Blk} (hy : RdL sz E W ok (.slice A n c) ys)
    (HO : OwnL sz E e W base v ps) (HB : Below base w0 W) (hbase : base ≤ W.heap.size) (hl : ps.length + ys.length ≤ 4294967296)
    (h : ∀ v1 w1, OwnL sz E e w1 base v1 (ps ++ ys) → Below base w0 w1 → W.grownBy w1 v.ownBlock → (v1.ownBlock = v.ownBlock ∨ v1.ownBlock = some W.heap.size) → wpList P ops Q rest (a.put o.dst v1) w1) :
    wpList P ops Q (o :: rest) a W := by
  obtain ⟨v1, w1, hr, hown, hg, hat⟩ := run_appends (P := P) base t o.type e z sz bytes ht hinfo hz hs0 hb0 v ps ys A n c hy HO hbase hl
  rw [← append_types ht ht2] at hr
  refine wpList_plain hgd fun K hK => ?_
  unfold Oper.wp execOp
  simp only [ho, resolve, invoke, builtin, Sem.run_bind, Sem.run_pure, Result.andThen_ok, List.map_toArray, List.map_cons, List.map_nil, hs, hx, hr]
  exact hK _ _ (h v1 w1 hown (HB.grown hg hbase fun k hk => (HO.lt k hk).1) hg hat)
end
end Go.Proofs.YtmpndmjfdijamaaGreatDoor
