/- The reference's operator in memory: its bags, its result. -/
import Derived.Test.YtflckpfpgpfjlaaGreatDoorMNe
import Derived.Test.YtflckpfpgpfjlaaGreatDoorMRefV
import Derived.Test.YtflckpfpgpfjlaaGreatDoorMKx
import Derived.Test.YtflckpfpgpfjlaaGreatDoorMKy
set_option linter.unusedVariables false
set_option linter.unusedSimpArgs false
namespace Go.Proofs.YtflckpfpgpfjlaaGreatDoor
open Go.RowKit Go.Sort
def IB : Blk := Fresh 0 [3]
def EBk : Blk := Fresh 0 [96, 66]
structure RBag (n : Int) (z : List GE) : Prop where
  ok : ZOk z
  len : ∀ x ∈ z, (x.row.length : Int) = n
  w : ∀ x ∈ z, 1 ≤ x.w ∧ x.w ≤ 1099511627776
theorem RBag.nil (n : Int) : RBag n [] := ⟨ZOk.nil, (fun x hx => by cases hx), (fun x hx => by cases hx)⟩
theorem RBag.fair {n : Int} {z : List GE} (h : RBag n z) : FairZ z := fun x hx => by
  have := h.w x hx
  exact fair_of (by omega) (by omega)
theorem RBag.sound {n : Int} {z : List GE} (h : RBag n z) : zsound z = true := zok_sound h.ok h.fair
theorem RBag.wb {n : Nat} {z : List GE} (h : RBag n z) : WBag n z := ⟨h.ok, fun x hx => by have := h.len x hx; omega, h.w⟩
def fitsL : List Int → List (List GE) → Bool
  | [], [] => true
  | n :: ws, d :: ds => fitsZ n d && fitsL ws ds
  | _, _ => false
theorem fitsL_len : ∀ {ws : List Int} {ds : List (List GE)}, ds.length ≠ ws.length → fitsL ws ds = false
  | [], [], h => absurd rfl h
  | [], _ :: _, _ => rfl
  | _ :: _, [], _ => rfl
  | n :: ws, d :: ds, h => by
    rw [fitsL, fitsL_len (ws := ws) (ds := ds) (fun e => h (by simp [e])), Bool.and_false]
theorem fitsL_no : ∀ {ws : List Int} {ds : List (List GE)} {i : Nat} {n : Int} {d : List GE}, ws[i]? = some n → ds[i]? = some d → fitsZ n d = false → fitsL ws ds = false
  | [], _, i, _, _, h, _, _ => by simp at h
  | _ :: _, [], i, _, _, _, h, _ => by simp at h
  | m :: ws, e :: ds, 0, n, d, h1, h2, h => by
    simp only [List.getElem?_cons_zero, Option.some.injEq] at h1 h2
    subst h1 h2
    rw [fitsL, h, Bool.false_and]
  | m :: ws, e :: ds, i + 1, n, d, h1, h2, h => by
    simp only [List.getElem?_cons_succ] at h1 h2
    rw [fitsL, fitsL_no h1 h2 h, Bool.and_false]
theorem fitsL_yes : ∀ {ws : List Int} {ds : List (List GE)}, ds.length = ws.length → (∀ (i : Nat) (n : Int) (d : List GE), ws[i]? = some n → ds[i]? = some d → fitsZ n d = true) → fitsL ws ds = true
  | [], [], _, _ => rfl
  | [], _ :: _, h, _ => by simp at h
  | _ :: _, [], h, _ => by simp at h
  | m :: ws, e :: ds, hl, h => by
    rw [fitsL, h 0 m e rfl rfl, Bool.true_and]
    exact fitsL_yes (by simpa using hl) fun i n d h1 h2 => h (i + 1) n d (by simpa using h1) (by simpa using h2)
theorem fitsL_at : ∀ {ws : List Int} {ds : List (List GE)} {i : Nat} {n : Int} {d : List GE}, fitsL ws ds = true → ws[i]? = some n → ds[i]? = some d → fitsZ n d = true
  | [], _, i, _, _, _, h, _ => by simp at h
  | _ :: _, [], i, _, _, h, _, _ => by simp [fitsL] at h
  | m :: ws, e :: ds, 0, n, d, h, h1, h2 => by
    simp only [List.getElem?_cons_zero, Option.some.injEq] at h1 h2
    subst h1 h2
    rw [fitsL, Bool.and_eq_true] at h
    exact h.1
  | m :: ws, e :: ds, i + 1, n, d, h, h1, h2 => by
    simp only [List.getElem?_cons_succ] at h1 h2
    rw [fitsL, Bool.and_eq_true] at h
    exact fitsL_at h.2 h1 h2
theorem fitsL_two (nl nr : Int) (ds : List (List GE)) : fitsL [nl, nr] ds = fitsD nl nr ds := by
  match ds with
  | [] => rfl
  | [_] => simp [fitsL, fitsD]
  | [a, b] => simp [fitsL, fitsD]
  | _ :: _ :: _ :: _ => simp [fitsL, fitsD]
structure Stepped (ws : List Int) (bags ds bags2 : List (List GE)) : Prop where
  len : bags2.length = bags.length
  at' : ∀ (i : Nat) (n : Int) (z d y : List GE), ws[i]? = some n → bags[i]? = some z → ds[i]? = some d → bags2[i]? = some y → Made (z ++ d) y ∧ RBag n y
section
variable {α : Type} {E : α → List Value → Prop} {xs : List α}
theorem Reps.set1 {cs : List Value} (h : Reps 1 E xs cs) {j : Nat} {x : α} {a : Value} (hj : j < xs.length) (hx : E x [a]) : Reps 1 E (xs.set j x) (cs.set j a) := by
  refine ⟨by simp [h.1], fun i y hi => ?_⟩
  have hl := h.1
  rw [List.getElem?_set] at hi
  split at hi
  · next e =>
    subst e
    injection hi with hi
    subst hi
    have : ((cs.set j a).drop (j * 1)).take 1 = [a] := by
      apply List.ext_getElem?
      intro k
      simp only [List.getElem?_take, List.getElem?_drop, List.getElem?_set, List.length_set, Nat.mul_one]
      by_cases hk : k < 1
      · obtain rfl : k = 0 := by omega
        simp; omega
      · rw [if_neg hk, List.getElem?_eq_none (by simp; omega)]
    rw [this]; exact hx
  · next e =>
    have hil := (List.getElem?_eq_some_iff.1 hi).1
    have h2 := h.2 i y hi
    have : ((cs.set j a).drop (i * 1)).take 1 = (cs.drop (i * 1)).take 1 := by
      apply List.ext_getElem?
      intro k
      simp only [List.getElem?_take, List.getElem?_drop, List.getElem?_set, List.length_set, Nat.mul_one]
      by_cases hk : k < 1
      · rw [if_pos hk, if_pos hk, if_neg (by omega)]
      · rw [if_neg hk, if_neg hk]
    rw [this]; exact h2
theorem OwnL.set1 {e : TypeId} {w : World} {base g n c : Nat} (h : OwnL 1 E e w base (.slice (some ⟨g, 0, none⟩) n c) xs) {j : Nat} {x : α} {a : Value} (hj : j < xs.length) (hx : E x [a]) (h1 : a.oneCell' = true) :
    OwnL 1 E e (w.setCell ⟨g, j, none⟩ a) base (.slice (some ⟨g, 0, none⟩) n c) (xs.set j x) ∧ w.grownBy (w.setCell ⟨g, j, none⟩ a) (some g) := by
  obtain ⟨cs, ho, hr, hone, hl⟩ := h
  have hn : n = xs.length := by
    rcases ho.2 with ⟨hv, _⟩ | ⟨_, _, _, hv, _⟩
    · injection hv with h1; cases h1
    · injection hv
  subst hn
  obtain ⟨o1, g1⟩ := ho.stored j a
  refine ⟨⟨_, by simpa using o1, hr.set1 hj hx, fun u hu => ?_, by simpa using hl⟩, g1⟩
  rcases List.mem_or_eq_of_mem_set hu with hu | rfl
  · exact hone u hu
  · exact h1
theorem OwnL.held {sz : Nat} {e : TypeId} {w w' : World} {base : Nat} {v : Value} (h : OwnL sz E e w base v xs) (hk : ∀ k c, v.ownBlock = some k → w.heap[k]? = some (.cells c e (0, 0)) → w'.heap[k]? = some (.cells c e (0, 0))) : OwnL sz E e w' base v xs := by
  obtain ⟨ds, ho, hr, hone, hl⟩ := h
  refine ⟨ds, ⟨ho.1, ?_⟩, hr, hone, hl⟩
  rcases ho.2 with h6 | ⟨g, cap, cur, hv, hb, hg, hrest⟩
  · exact .inl h6
  · exact .inr ⟨g, cap, cur, hv, hb, hk g _ (by rw [hv]; rfl) hg, hrest⟩
end
theorem EZ.mv {w w' : World} {ok ok' : Blk} {z : List GE} {cs : List Value} (h : EZ w ok z cs) (hs : Stays w w' ok ok') : EZ w' ok' z cs := let ⟨v, h1, h2⟩ := h; ⟨v, h1, h2.mv hs⟩
def ROpV (base ub gb : Nat) (V S G : Option Addr) (vc sc gc : Nat) (w : World) (nd : List Value) (ws : List Int) (bags : List (List GE)) (s : List GE) (broken : Int) : Prop :=
  base ≤ ub ∧ bags.length = ws.length ∧ nd.length = 13 ∧
    w.heap[ub]? = some (.cells (nd ++ ([.slice V ws.length vc, .slice G ws.length gc, .slice S s.length sc, .int .i64 broken] : List Value)).toArray 100 (0, 0)) ∧
    RdI w IB (.slice V ws.length vc) ws ∧ OwnL 1 (EZ w EBk) 35 w base (.slice G ws.length gc) bags ∧ (∀ k, (Value.slice G ws.length gc).ownBlock = some k → k = gb) ∧ RdZ w EBk (.slice S s.length sc) s
def ROp (base ub gb : Nat) (w : World) (nd : List Value) (ws : List Int) (bags : List (List GE)) (s : List GE) (broken : Int) : Prop := ∃ (V S G : Option Addr) (vc sc gc : Nat), ROpV base ub gb V S G vc sc gc w nd ws bags s broken
def RW (ub gb : Nat) (k : Nat) : Prop := k = ub ∨ k = gb
section
variable {base ub gb : Nat} {V S G : Option Addr} {vc sc gc : Nat} {w w' : World} {nd : List Value} {ws : List Int} {bags : List (List GE)} {s : List GE} {broken : Int}
theorem ROpV.keep (h : ROpV base ub gb V S G vc sc gc w nd ws bags s broken) (hu : ∀ c, w.heap[ub]? = some (.cells c 100 (0, 0)) → w'.heap[ub]? = some (.cells c 100 (0, 0))) (hg : ∀ c, w.heap[gb]? = some (.cells c 35 (0, 0)) → w'.heap[gb]? = some (.cells c 35 (0, 0))) (hi : Stays w w' IB IB) (he : Stays w w' EBk EBk) : ROpV base ub gb V S G vc sc gc w' nd ws bags s broken := by
  obtain ⟨h1, h2, h3, h4, h5, h6, h7, h8⟩ := h
  exact ⟨h1, h2, h3, hu _ h4, h5.mv hi, (h6.held fun k c hk hh => by obtain rfl := h7 k hk; exact hg c hh).imp fun _ _ e => e.mv he, h7, h8.mv he⟩
theorem ROpV.ext (h : ROpV base ub gb V S G vc sc gc w nd ws bags s broken) (hb : Below w.heap.size w w') : ROpV base ub gb V S G vc sc gc w' nd ws bags s broken :=
  h.keep (fun c hc => (hb.block ub (Array.getElem?_eq_some_iff.1 hc).1).trans hc) (fun c hc => (hb.block gb (Array.getElem?_eq_some_iff.1 hc).1).trans hc) (Stays.below hb _) (Stays.below hb _)
theorem ROp.ext (h : ROp base ub gb w nd ws bags s broken) (hb : Below w.heap.size w w') : ROp base ub gb w' nd ws bags s broken :=
  let ⟨V, S, G, vc, sc, gc, h⟩ := h; ⟨V, S, G, vc, sc, gc, h.ext hb⟩
theorem ib_not : ∀ k t, IB k t → t ≠ 133 ∧ t ≠ 136 ∧ t ≠ 74 ∧ IB k t := fun k t h => by
  have e : t = 3 := by have := h.2; simpa using this
  subst e
  exact ⟨by decide, by decide, by decide, h⟩
theorem ebk_not : ∀ k t, EBk k t → t ≠ 133 ∧ t ≠ 136 ∧ t ≠ 74 ∧ EBk k t := fun k t h => by
  have e : t = 96 ∨ t = 66 := by have := h.2; simpa using this
  rcases e with rfl | rfl
  · exact ⟨by decide, by decide, by decide, h⟩
  · exact ⟨by decide, by decide, by decide, h⟩
theorem ROp.jmut {R : Nat → Prop} (h : ROp base ub gb w nd ws bags s broken) (hm : JMut R w w') : ROp base ub gb w' nd ws bags s broken := by
  have hne : ∀ {T : TypeId} {c : Array Value} {fr : Nat × Nat}, T ≠ 133 → T ≠ 136 → T ≠ 74 → ∀ c' fz, Obj.cells c T fr ≠ .cells c' 133 fz ∧ Obj.cells c T fr ≠ .cells c' 136 fz ∧ Obj.cells c T fr ≠ .cells c' 74 fz := fun {T c fr} a1 a2 a3 c' fz => ⟨fun e => by injection e with _ h4 _; exact a1 h4, fun e => by injection e with _ h4 _; exact a2 h4, fun e => by injection e with _ h4 _; exact a3 h4⟩
  obtain ⟨V, S, G, vc, sc, gc, h⟩ := h
  exact ⟨V, S, G, vc, sc, gc, h.keep (fun c hc => hm.block ub _ hc (.inr (hne (by decide) (by decide) (by decide)))) (fun c hc => hm.block gb _ hc (.inr (hne (by decide) (by decide) (by decide)))) (hm.stays ib_not) (hm.stays ebk_not)⟩
theorem ROpV.bagsAt (h : ROpV base ub gb V S G vc sc gc w nd ws bags s broken) (hn : 0 < ws.length) : G = some ⟨gb, 0, none⟩ ∧ ∃ c, w.heap[gb]? = some (.cells c 35 (0, 0)) := by
  obtain ⟨h1, h2, h3, h4, h5, h6, h7, h8⟩ := h
  obtain ⟨g, c, hv, _⟩ := h6.addr (by omega)
  injection hv with hG _ _
  have hb : (Value.slice G ws.length gc).ownBlock = some g := by rw [hG]; rfl
  obtain rfl := h7 g hb
  exact ⟨hG, h6.typed g hb⟩
theorem tags_ne {w : World} {k : Nat} {c c' : Array Value} {t t' : TypeId} {f f' : Nat × Nat} (h : w.heap[k]? = some (.cells c t f)) (h' : w.heap[k]? = some (.cells c' t' f')) (hne : t ≠ t') : False := by
  rw [h] at h'
  injection h' with h'
  injection h' with _ e _
  exact hne e
theorem set_typed {w : World} {b i : Nat} {u : Value} {c : Array Value} {T : TypeId} {fr : Nat × Nat} (hb : w.heap[b]? = some (.cells c T fr)) (Ts : List TypeId) (hT : T ∉ Ts) : Stays w (w.setCell ⟨b, i, none⟩ u) (Fresh 0 Ts) (Fresh 0 Ts) :=
  Stays.set _ (fun t cells fr' hh ho => by rw [hb] at hh; injection hh with hh; injection hh with _ e _; exact hT (e ▸ ho.2)) u
theorem ROpV.put (h : ROpV base ub gb V S G vc sc gc w nd ws bags s broken) {i : Nat} (hi : i < ws.length) {v : Value} {y : List GE} (hy : RdZ w EBk v y) : ROpV base ub gb V S G vc sc gc (w.setCell ⟨gb, i, none⟩ v) nd ws (bags.set i y) s broken := by
  obtain ⟨hG, c, hc⟩ := h.bagsAt (by omega)
  obtain ⟨h1, h2, h3, h4, h5, h6, h7, h8⟩ := h
  subst hG
  have hne : ub ≠ gb := by rintro rfl; exact tags_ne h4 hc (by decide)
  have he := set_typed (i := i) (u := v) hc [96, 66] (by decide)
  have h9 := ((h6.imp fun _ _ e => e.mv (ok' := EBk) (Stays.mono fun _ _ h => h)).set1 (j := i) (x := y) (a := v) (by omega) ⟨v, rfl, hy⟩ (by obtain ⟨_, _, rfl, _⟩ := hy.shape; rfl)).1
  refine ⟨h1, by simpa using h2, h3, ?_, h5.mv (set_typed hc _ (by decide)), ?_, h7, h8.mv he⟩
  · rw [heap_setCell_other _ ⟨gb, i, none⟩ ub v hne]; exact h4
  · exact h9.imp fun _ _ e => e.mv he
theorem ROpV.res (h : ROpV base ub gb V S G vc sc gc w nd ws bags s broken) {S' : Option Addr} {sc' : Nat} {y : List GE} (hy : RdZ w EBk (.slice S' y.length sc') y) : ROpV base ub gb V S' G vc sc' gc (w.setCell ⟨ub, 15, none⟩ (.slice S' y.length sc')) nd ws bags y broken := by
  obtain ⟨h1, h2, h3, h4, h5, h6, h7, h8⟩ := h
  have he := set_typed (i := 15) (u := .slice S' y.length sc') h4 [96, 66] (by decide)
  refine ⟨h1, h2, h3, ?_, h5.mv (set_typed h4 _ (by decide)), (h6.held fun k c hk hh => ?_).imp fun _ _ e => e.mv he, h7, hy.mv he⟩
  · have := heap_setCell_same w ub 15 _ 100 (.slice S' y.length sc') h4
    rw [this]
    congr 2
    rw [List.setIfInBounds_toArray, List.set_append_right _ _ (by omega), h3]
    rfl
  · rw [heap_setCell_other _ ⟨ub, 15, none⟩ k _ (by rintro rfl; exact tags_ne h4 hh (by decide))]; exact hh
theorem ROpV.brk (h : ROpV base ub gb V S G vc sc gc w nd ws bags s broken) (q : Int) : ROpV base ub gb V S G vc sc gc (w.setCell ⟨ub, 16, none⟩ (.int .i64 q)) nd ws bags s q := by
  obtain ⟨h1, h2, h3, h4, h5, h6, h7, h8⟩ := h
  have he := set_typed (i := 16) (u := .int .i64 q) h4 [96, 66] (by decide)
  refine ⟨h1, h2, h3, ?_, h5.mv (set_typed h4 _ (by decide)), (h6.held fun k c hk hh => ?_).imp fun _ _ e => e.mv he, h7, h8.mv he⟩
  · have := heap_setCell_same w ub 16 _ 100 (.int .i64 q) h4
    rw [this]
    congr 2
    rw [List.setIfInBounds_toArray, List.set_append_right _ _ (by omega), h3]
    rfl
  · rw [heap_setCell_other _ ⟨ub, 16, none⟩ k _ (by rintro rfl; exact tags_ne h4 hh (by decide))]; exact hh
theorem ROpV.cells (h : ROpV base ub gb V S G vc sc gc w nd ws bags s broken) : (∀ (j : Nat) (u : Value), nd[j]? = some u → w.cell? ⟨ub, j, none⟩ = some u) ∧ w.cell? ⟨ub, 13, none⟩ = some (.slice V ws.length vc) ∧ w.cell? ⟨ub, 14, none⟩ = some (.slice G ws.length gc) ∧ w.cell? ⟨ub, 15, none⟩ = some (.slice S s.length sc) ∧ w.cell? ⟨ub, 16, none⟩ = some (.int .i64 broken) ∧ ∀ j, w.frozen? ⟨ub, j, none⟩ = false := by
  obtain ⟨h1, h2, h3, h4, h5, h6, h7, h8⟩ := h
  have key : ∀ j, w.cell? ⟨ub, j, none⟩ = (nd ++ ([.slice V ws.length vc, .slice G ws.length gc, .slice S s.length sc, .int .i64 broken] : List Value))[j]? := fun j => by
    rw [Lib.cell_of_heap h4]; simp
  refine ⟨fun j u hj => ?_, ?_, ?_, ?_, ?_, fun j => Lib.frozen_of_heap h4 j⟩
  · rw [key, List.getElem?_append_left (List.getElem?_eq_some_iff.1 hj).1]; exact hj
  all_goals rw [key, List.getElem?_append_right (by omega), h3]; rfl
theorem ROpV.bag (h : ROpV base ub gb V S G vc sc gc w nd ws bags s broken) {i : Nat} {z : List GE} (hz : bags[i]? = some z) : ∃ A c, RdZ w EBk (.slice A z.length c) z ∧ w.cell? ⟨gb, i, none⟩ = some (.slice A z.length c) ∧ w.frozen? ⟨gb, i, none⟩ = false ∧ G = some ⟨gb, 0, none⟩ := by
  have hi := (List.getElem?_eq_some_iff.1 hz).1
  have h2 := h.2.1
  obtain ⟨hG, c, hc⟩ := h.bagsAt (by omega)
  obtain ⟨_, _, _, h4, h5, h6, h7, h8⟩ := h
  obtain ⟨b, o, c', A, d, hv, _, hr, e0⟩ := RdD.delta (RdL.move (h6.rd (ok := AnyB) fun _ _ => trivial) (fun _ _ e => e.mv (Stays.any w EBk)) (Stays.any _ _)) hz
  obtain ⟨b2, o2, c2, hv2, _, cs, _, ⟨u, rfl, hr2⟩, _, hcc⟩ := (h6.rd (ok := AnyB) fun _ _ => trivial).at hz
  obtain ⟨A2, d2, rfl, _⟩ := hr2.shape
  subst hG
  injection hv2 with hA _ _
  injection hA with hA
  injection hA with hA1 hA2 _
  subst hA1 hA2
  exact ⟨A2, d2, hr2, by simpa using hcc 0 _ rfl, Lib.frozen_of_heap hc i, rfl⟩
end
end Go.Proofs.YtflckpfpgpfjlaaGreatDoor
