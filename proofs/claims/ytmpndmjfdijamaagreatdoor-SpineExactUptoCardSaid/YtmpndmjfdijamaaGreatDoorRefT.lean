/- The reference's totals: the plain law of its sums in order. -/
import Derived.Test.YtmpndmjfdijamaaGreatDoorMkLaw
set_option linter.unusedVariables false
set_option linter.unusedSimpArgs false
namespace Go.Proofs.YtmpndmjfdijamaaGreatDoor
open Go.RowKit Go.Sort
/-- freshetref03's total -/
structure GT where
  row : List GV
  high : Int
  low : Int
def GT.sum (t : GT) : Int := t.high * 2147483648 + t.low
def newT (x : GE) : GT := ⟨x.row, x.w / 2147483648, x.w % 2147483648⟩
def addT (t : GT) (x : GE) : GT := ⟨t.row, t.high + x.w / 2147483648, t.low + x.w % 2147483648⟩
theorem newT_sum (x : GE) : (newT x).sum = x.w := by unfold GT.sum newT; simp only; omega
theorem addT_sum (t : GT) (x : GE) : (addT t x).sum = t.sum + x.w := by unfold GT.sum addT; simp only; omega
/-- put -/
def insT : List GT → GE → List GT
  | [], x => [newT x]
  | t :: ts, x => if rlex t.row x.row < 0 then t :: insT ts x else if rlex t.row x.row = 0 then addT t x :: ts else newT x :: t :: ts
def zt (ts : List GT) (r : List GV) : Int := sumI (fun t => if sameR t.row r = true then t.sum else 0) ts
theorem zt_nil (r : List GV) : zt [] r = 0 := rfl
theorem zt_cons (t : GT) (ts : List GT) (r : List GV) : zt (t :: ts) r = (if sameR t.row r = true then t.sum else 0) + zt ts r := rfl
structure TInv (p : List GE) (ts : List GT) : Prop where
  rise : ts.Pairwise fun a b => rlex a.row b.row < 0
  row : ∀ t ∈ ts, RowOk t.row
  mem : ∀ t ∈ ts, ∃ y ∈ p, y.row = t.row
  sum : ∀ r, zt ts r = zw p r
  low : ∀ t ∈ ts, 0 ≤ t.low ∧ t.low ≤ p.length * 2147483647
  high : ∀ t ∈ ts, -(p.length * 2147483648 : Int) ≤ t.high ∧ t.high ≤ p.length * 2147483648
  len : ts.length ≤ p.length
theorem TInv.nil : TInv [] [] := ⟨List.Pairwise.nil, by simp, by simp, fun r => rfl, by simp, by simp, by simp⟩
theorem rlex_row {a b : List GV} (ha : RowOk a) (hb : RowOk b) (h : rlex a b = 0) : a = b := rlex_eq ha.2 hb.2 (rsound_at ha.1).2 (rsound_at hb.1).2 h
theorem insT_mem {x : GE} (hx : RowOk x.row) : ∀ {ts : List GT}, (∀ t ∈ ts, RowOk t.row) → ∀ t ∈ insT ts x, t ∈ ts ∨ t = newT x ∨ ∃ s ∈ ts, s.row = x.row ∧ t = addT s x
  | [], _, t, ht => by
    rw [insT, List.mem_singleton] at ht
    exact .inr (.inl ht)
  | s :: ts, hr, t, ht => by
    rw [insT] at ht
    split at ht
    · rcases List.mem_cons.1 ht with rfl | ht
      · exact .inl (by simp)
      · rcases insT_mem hx (fun t ht => hr t (by simp [ht])) t ht with h | h | ⟨s', h1, h2⟩
        · exact .inl (by simp [h])
        · exact .inr (.inl h)
        · exact .inr (.inr ⟨s', by simp [h1], h2⟩)
    · split at ht
      · next h0 =>
        rcases List.mem_cons.1 ht with rfl | ht
        · exact .inr (.inr ⟨s, by simp, rlex_row (hr s (by simp)) hx h0, rfl⟩)
        · exact .inl (by simp [ht])
      · rcases List.mem_cons.1 ht with rfl | ht
        · exact .inr (.inl rfl)
        · exact .inl ht
theorem insT_rise {x : GE} (hx : RowOk x.row) : ∀ {ts : List GT}, (∀ t ∈ ts, RowOk t.row) → (ts.Pairwise fun a b => rlex a.row b.row < 0) → (insT ts x).Pairwise fun a b => rlex a.row b.row < 0
  | [], _, _ => List.pairwise_singleton _ _
  | s :: ts, hr, hp => by
    obtain ⟨h1, h2⟩ := List.pairwise_cons.1 hp
    rw [insT]
    split
    · next h =>
      refine List.pairwise_cons.2 ⟨fun t ht => ?_, insT_rise hx (fun t ht => hr t (by simp [ht])) h2⟩
      rcases insT_mem hx (fun t ht => hr t (by simp [ht])) t ht with h' | rfl | ⟨s', h', _, rfl⟩
      · exact h1 t h'
      · exact h
      · exact h1 s' h'
    · next hn =>
      split
      · exact List.pairwise_cons.2 ⟨fun t ht => h1 t ht, h2⟩
      · next h0 =>
        have hlt : rlex x.row s.row < 0 := by
          have := (rlex_cmp.flip x.row s.row)
          omega
        refine List.pairwise_cons.2 ⟨fun t ht => ?_, hp⟩
        rcases List.mem_cons.1 ht with rfl | ht
        · exact hlt
        · exact rlex_cmp.lt_trans hlt (h1 t ht)
theorem insT_zt {x : GE} (hx : RowOk x.row) (r : List GV) : ∀ {ts : List GT}, (∀ t ∈ ts, RowOk t.row) → zt (insT ts x) r = zt ts r + if sameR x.row r = true then x.w else 0
  | [], _ => by
    rw [insT, zt_cons, zt_nil, newT_sum]
    show (if sameR x.row r = true then x.w else 0) + 0 = _
    omega
  | s :: ts, hr => by
    rw [insT]
    split
    · rw [zt_cons, zt_cons, insT_zt hx r fun t ht => hr t (by simp [ht])]
      omega
    · split
      · next h0 =>
        rw [zt_cons, zt_cons, addT_sum, ← rlex_row (hr s (by simp)) hx h0]
        show (if sameR s.row r = true then s.sum + x.w else 0) + _ = _
        split <;> omega
      · rw [zt_cons, newT_sum]
        show (if sameR x.row r = true then x.w else 0) + _ = _
        omega
theorem insT_len (x : GE) : ∀ ts : List GT, (insT ts x).length ≤ ts.length + 1
  | [] => by simp [insT]
  | s :: ts => by
    have := insT_len x ts
    rw [insT]
    split
    · simp only [List.length_cons]; omega
    · split <;> simp
theorem TInv.step {p : List GE} {ts : List GT} (h : TInv p ts) {x : GE} (hx : RowOk x.row) (hf : fair x.w = true) : TInv (p ++ [x]) (insT ts x) := by
  have hw : -4611686018427387904 ≤ x.w ∧ x.w ≤ 4611686018427387904 := by
    unfold fair at hf
    simpa using hf
  have hlen : ((p ++ [x]).length : Int) = p.length + 1 := by rw [List.length_append]; rfl
  refine ⟨insT_rise hx h.row h.rise, fun t ht => ?_, fun t ht => ?_, fun r => ?_, fun t ht => ?_, fun t ht => ?_, ?_⟩
  · rcases insT_mem hx h.row t ht with h1 | rfl | ⟨s, h1, h2, rfl⟩
    · exact h.row t h1
    · exact hx
    · exact h.row s h1
  · rcases insT_mem hx h.row t ht with h1 | rfl | ⟨s, h1, h2, rfl⟩
    · obtain ⟨y, h3, h4⟩ := h.mem t h1
      exact ⟨y, by simp [h3], h4⟩
    · exact ⟨x, by simp, rfl⟩
    · exact ⟨x, by simp, h2.symm⟩
  · rw [insT_zt hx r h.row, h.sum, zw_app, zw_cons, zw_nil]; omega
  · rw [hlen]
    rcases insT_mem hx h.row t ht with h1 | rfl | ⟨s, h1, h2, rfl⟩
    · have := h.low t h1; omega
    · unfold newT; simp only; omega
    · have := h.low s h1; unfold addT; simp only; omega
  · rw [hlen]
    rcases insT_mem hx h.row t ht with h1 | rfl | ⟨s, h1, h2, rfl⟩
    · have := h.high t h1; omega
    · unfold newT; simp only; omega
    · have := h.high s h1; unfold addT; simp only; omega
  · have := insT_len x ts
    have := h.len
    rw [List.length_append]; simp; omega
/-- What put does at the place that its search finds. -/
theorem insT_at {x : GE} : ∀ {ts : List GT} {k : Nat}, k ≤ ts.length → (∀ (i : Nat) (t : GT), i < k → ts[i]? = some t → rlex t.row x.row < 0) → insT ts x = ts.take k ++ insT (ts.drop k) x
  | ts, 0, _, _ => by simp
  | [], k + 1, h, _ => by simp at h
  | s :: ts, k + 1, h, hb => by
    rw [insT, if_pos (hb 0 s (by omega) rfl), insT_at (k := k) (by simpa using h) fun i t hi ht => hb (i + 1) t (by omega) (by simpa using ht)]
    rfl
theorem insT_end {x : GE} {ts : List GT} (hb : ∀ (i : Nat) (t : GT), i < ts.length → ts[i]? = some t → rlex t.row x.row < 0) : insT ts x = ts ++ [newT x] := by
  rw [insT_at (Nat.le_refl _) hb]
  simp [insT]
theorem insT_hit {x : GE} {ts : List GT} {k : Nat} {t : GT} (ht : ts[k]? = some t) (hb : ∀ (i : Nat) (t : GT), i < k → ts[i]? = some t → rlex t.row x.row < 0) (h0 : rlex t.row x.row = 0) : insT ts x = ts.set k (addT t x) := by
  obtain ⟨hk, rfl⟩ := List.getElem?_eq_some_iff.1 ht
  rw [insT_at (by omega) hb, List.drop_eq_getElem_cons hk, insT, if_neg (by omega), if_pos h0, List.set_eq_take_append_cons_drop, if_pos hk]
theorem insT_new {x : GE} {ts : List GT} {k : Nat} {t : GT} (ht : ts[k]? = some t) (hb : ∀ (i : Nat) (t : GT), i < k → ts[i]? = some t → rlex t.row x.row < 0) (h0 : 0 < rlex t.row x.row) : insT ts x = ts.take k ++ newT x :: ts.drop k := by
  obtain ⟨hk, rfl⟩ := List.getElem?_eq_some_iff.1 ht
  rw [insT_at (by omega) hb]
  conv => lhs; rw [List.drop_eq_getElem_cons hk]
  rw [insT, if_neg (by omega), if_neg (by omega), List.drop_eq_getElem_cons hk]
/-- The copy and the store give the inserted list. -/
theorem shift_set {α : Type} {xs : List α} {z x : α} {k : Nat} (hk : k ≤ xs.length) : ((xs ++ [z]).take (k + 1) ++ ((xs ++ [z]).drop k).take (xs.length - k) ++ (xs ++ [z]).drop (k + 1 + (xs.length - k))).set k x = xs.take k ++ x :: xs.drop k := by
  apply List.ext_getElem?
  intro i
  simp only [List.getElem?_set, List.getElem?_append, List.getElem?_take, List.getElem?_drop, List.length_take, List.length_drop, List.length_append, List.length_singleton, List.getElem?_cons]
  repeat' split
  all_goals first | rfl | omega | (congr 1; omega) | skip
  all_goals simp_all
  all_goals first | rfl | omega | (congr 1; omega) | skip
/-- Make's second loop. -/
def outT (ts : List GT) : List GE := (ts.filter fun t => t.sum != 0).map fun t => ⟨t.row, t.sum⟩
theorem outT_cons (t : GT) (ts : List GT) : outT (t :: ts) = if t.sum = 0 then outT ts else ⟨t.row, t.sum⟩ :: outT ts := by
  unfold outT
  by_cases h : t.sum = 0 <;> simp [h]
theorem outT_snoc (ts : List GT) (t : GT) : outT (ts ++ [t]) = if t.sum = 0 then outT ts else outT ts ++ [⟨t.row, t.sum⟩] := by
  unfold outT
  by_cases h : t.sum = 0 <;> simp [h]
theorem outT_len (ts : List GT) : (outT ts).length ≤ ts.length := by
  unfold outT
  rw [List.length_map]
  exact List.length_filter_le _ _
theorem outT_zw (ts : List GT) (r : List GV) : zw (outT ts) r = zt ts r := by
  induction ts with
  | nil => rfl
  | cons t ts ih =>
    rw [outT_cons, zt_cons, ← ih]
    split
    · next h => rw [h]; split <;> omega
    · rw [zw_cons]
theorem zt_at {ts : List GT} (h : ts.Pairwise fun a b => rlex a.row b.row < 0) {t : GT} (ht : t ∈ ts) : zt ts t.row = t.sum := by
  have none : ∀ {us : List GT} {r : List GV}, (∀ u ∈ us, u.row ≠ r) → zt us r = 0 := by
    intro us r hu
    induction us with
    | nil => rfl
    | cons u us ih =>
      rw [zt_cons, if_neg fun e => hu u (by simp) ((sameR_eq _ _).1 e), ih fun v hv => hu v (by simp [hv])]
      rfl
  induction ts with
  | nil => cases ht
  | cons s ts ih =>
    obtain ⟨h1, h2⟩ := List.pairwise_cons.1 h
    rw [zt_cons]
    rcases List.mem_cons.1 ht with rfl | ht
    · rw [if_pos ((sameR_eq _ _).2 rfl), none fun u hu => (rlex_ne (h1 u hu)).symm]
      omega
    · rw [if_neg fun e => rlex_ne (h1 t ht) ((sameR_eq _ _).1 e), ih h2 ht]
      omega
theorem zt_fair {ts : List GT} (h : ts.Pairwise fun a b => rlex a.row b.row < 0) (hf : ∀ t ∈ ts, fair t.sum = true) (r : List GV) : fair (zt ts r) = true := by
  by_cases hx : ∃ t ∈ ts, t.row = r
  · obtain ⟨t, ht, rfl⟩ := hx
    rw [zt_at h ht]; exact hf t ht
  · have : zt ts r = 0 := by
      rw [← outT_zw]
      refine zw_none fun x hm e => hx ?_
      unfold outT at hm
      obtain ⟨t, h1, rfl⟩ := List.mem_map.1 hm
      exact ⟨t, (List.mem_filter.1 h1).1, e⟩
    rw [this]; rfl
theorem TInv.over {l : List GE} {ts : List GT} (h : TInv l ts) {t : GT} (ht : t ∈ ts) (hf : fair t.sum = false) : overL l = true := by
  obtain ⟨y, hy, e⟩ := h.mem t ht
  unfold overL
  rw [List.any_eq_true]
  exact ⟨y, hy, by rw [e, ← h.sum, zt_at h.rise ht, hf]; rfl⟩
theorem TInv.notOver {l : List GE} {ts : List GT} (h : TInv l ts) (hf : ∀ t ∈ ts, fair t.sum = true) : overL l = false := by
  unfold overL
  rw [List.any_eq_false]
  intro x hx
  rw [← h.sum, zt_fair h.rise hf]
  simp
theorem TInv.made {l : List GE} {ts : List GT} (h : TInv l ts) (hf : ∀ t ∈ ts, fair t.sum = true) : Made l (outT ts) where
  ok := by
    refine ⟨fun x hx => ?_, fun x hx => ?_, ?_⟩
    · obtain ⟨t, h1, rfl⟩ := List.mem_map.1 hx
      exact h.row t (List.mem_filter.1 h1).1
    · obtain ⟨t, h1, rfl⟩ := List.mem_map.1 hx
      simpa using (List.mem_filter.1 h1).2
    · exact List.pairwise_map.2 (h.rise.sublist List.filter_sublist)
  fz := fun x hx => by
    obtain ⟨t, h1, rfl⟩ := List.mem_map.1 hx
    exact hf t (List.mem_filter.1 h1).1
  sum := fun r => by rw [outT_zw, h.sum]
end Go.Proofs.YtmpndmjfdijamaaGreatDoor
