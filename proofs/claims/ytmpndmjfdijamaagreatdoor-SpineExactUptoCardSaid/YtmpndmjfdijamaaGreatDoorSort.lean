/- Slices of the call's own, sorted: the shelf's contract in the words of OwnL; the sort of items. -/
import Derived.Test.YtmpndmjfdijamaaGreatDoorSettle
set_option linter.unusedVariables false
set_option linter.unusedSimpArgs false
namespace Go.Proofs.YtmpndmjfdijamaaGreatDoor
open Go.RowKit Go.Sort
theorem Cmp.swo {α : Type} {c : α → α → Int} (h : Cmp c) : SWO (ltOf c) where
  irrefl x := by simp [ltOf, h.refl]
  trans x y z h1 h2 := by
    simp only [ltOf, decide_eq_true_eq] at *
    exact h.lt_trans h1 h2
  ntrans x y z h1 h2 := by
    simp only [ltOf, decide_eq_false_iff_not] at *
    intro h3
    have a1 := h.flip x y
    have a2 := h.flip y z
    have a3 := h.flip x z
    have b1 : c y x ≤ 0 := by have := h.flip y x; omega
    have b2 : c z y ≤ 0 := by have := h.flip z y; omega
    have := h.trans z y x b2 b1
    have := h.flip z x
    omega
section
variable {X : Type} {sz : Nat} {E : X → List Value → Prop} {e : TypeId} {base g cap : Nat} {w : World} {xs : List X}
/-- An element and its cells. -/
abbrev Cel (E : X → List Value → Prop) : Type := { p : X × List Value // E p.1 p.2 }
def celEnc (p : Cel E) : List Value := p.1.2
def celX (p : Cel E) : X := p.1.1
theorem own_cels (hsz : 0 < sz) (h : OwnL sz E e w base (.slice (some ⟨g, 0, none⟩) xs.length cap) xs) (hne : 0 < xs.length) :
    ∃ (d : List (Cel E)), d.map celX = xs ∧ ∀ j p, d[j]? = some p → ∀ i u, (celEnc p)[i]? = some u → i < sz → w.cell? ⟨g, j * sz + i, none⟩ = some u := by
  obtain ⟨cs, ho, hr, h1, hl⟩ := h
  have hrd := (OwnL.rd ⟨cs, ho, hr, h1, hl⟩ (ok := AnyB) fun _ _ => trivial)
  have key : ∀ m, m ≤ xs.length → ∃ (d : List (Cel E)), d.map celX = xs.take m ∧ ∀ j p, d[j]? = some p → ∀ i u, (celEnc p)[i]? = some u → i < sz → w.cell? ⟨g, j * sz + i, none⟩ = some u := by
    intro m
    induction m with
    | zero => intro _; exact ⟨[], by simp, by simp⟩
    | succ m ih =>
      intro hm
      obtain ⟨d, hd1, hd2⟩ := ih (by omega)
      obtain ⟨b, o, c, hv, _, cs', e1, e2, e3, e4⟩ := hrd.at (List.getElem?_eq_getElem (show m < xs.length by omega))
      injection hv with hA _ _
      injection hA with hA
      injection hA with hg ho' _
      subst hg
      subst ho'
      have hdl : d.length = m := by have := congrArg List.length hd1; simpa [Nat.min_eq_left (show m ≤ xs.length by omega)] using this
      refine ⟨d ++ [⟨(xs[m], cs'), e2⟩], ?_, fun j p hj i u hu hi => ?_⟩
      · rw [List.map_append, hd1, List.take_succ_eq_append_getElem (by omega)]; rfl
      · rcases Nat.lt_or_ge j d.length with hlt | hge
        · rw [List.getElem?_append_left hlt] at hj; exact hd2 j p hj i u hu hi
        · rw [List.getElem?_append_right hge] at hj
          have hj0 : j - d.length = 0 := by
            have := (List.getElem?_eq_some_iff.1 hj).1
            simpa using this
          rw [hj0] at hj
          obtain rfl : j = m := by omega
          have : p = ⟨(xs[j], cs'), e2⟩ := by simpa using hj.symm
          subst this
          have := e4 i u hu
          rwa [Nat.zero_add] at this
  obtain ⟨d, h2, h3⟩ := key xs.length (Nat.le_refl _)
  exact ⟨d, by rw [h2, List.take_length], h3⟩
variable [Inhabited (Cel E)]
theorem holds_cels (hE : ∀ x cs, E x cs → cs.length = sz) {cur : Array Value} {fe : TypeId} (hb : w.heap[g]? = some (.cells cur fe (0, 0))) {d : List (Cel E)}
    (hd : ∀ j p, d[j]? = some p → ∀ i u, (celEnc p)[i]? = some u → i < sz → w.cell? ⟨g, j * sz + i, none⟩ = some u) : HoldsK celEnc sz w g 0 d.toArray := by
  intro t ht
  rw [size_flatK] at ht
  have hs : 0 < sz := by rcases Nat.eq_zero_or_pos sz with h | h
                         · subst h; simp at ht
                         · exact h
  have hj : t / sz < d.length := by
    rw [Nat.div_lt_iff_lt_mul hs]; simpa using ht
  have hm := Nat.mod_lt t hs
  have hlen : (celEnc d[t / sz]).length = sz := hE _ _ d[t / sz].2
  refine ⟨?_, Lib.frozen_of_heap hb _⟩
  have h1 := hd (t / sz) d[t / sz] (List.getElem?_eq_getElem hj) (t % sz) (celEnc d[t / sz])[t % sz] (List.getElem?_eq_getElem (by omega)) hm
  rw [Nat.mul_comm, Nat.div_add_mod] at h1
  rw [Nat.zero_add, h1, get_flatK _ _ _ _ ht]
  congr 1
  show (celEnc d[t / sz])[t % sz] = (celEnc (d.toArray[t / sz]!))[t % sz]!
  rw [getElem!_pos d.toArray _ (by simpa using hj)]
  simp only [List.getElem_toArray]
  rw [getElem!_pos _ _ (by omega)]
theorem sortedK_heap {n : Nat} {os : Array Obj} {cur : Array Value} {fe : TypeId} {fr : Nat × Nat} (d : Array (Cel E)) (hb : w.heap[g]? = some (.cells cur fe fr)) :
    (sortWorldK celEnc sz w g 0 n d os).heap[g]? = some (.cells (putCells id 0 (flatK celEnc sz d) cur) fe fr) := by
  have hg : g < w.heap.size := (Array.getElem?_eq_some_iff.1 hb).1
  unfold sortWorldK putRowK
  rw [heap_grow_old _ _ (by simpa using hg)]
  simp [putRow, mapBlock, Sort.ahead, Array.getElem?_modify, hb, onCells]
theorem sortedK_grown {n : Nat} {os : Array Obj} (d : Array (Cel E)) : w.grownBy (sortWorldK celEnc sz w g 0 n d os) (some g) := by
  unfold sortWorldK putRowK
  refine ⟨rfl, rfl, rfl, by simp, fun k hk hne => ?_⟩
  rw [heap_grow_old _ _ (by simpa using hk)]
  have : g ≠ k := fun e => hne (by rw [e])
  simp [putRow, mapBlock, Sort.ahead, Array.getElem?_modify, this]
theorem sortedK_rd {n : Nat} {os : Array Obj} {cur : Array Value} {fe : TypeId} (hE : ∀ x cs, E x cs → cs.length = sz ∧ ∀ u ∈ cs, u.oneCell' = true) (d d' : Array (Cel E)) (hb : w.heap[g]? = some (.cells cur fe (0, 0))) (hH : HoldsK celEnc sz w g 0 d) (hs : d'.size = d.size) (hc : d'.size ≤ cap) (hl : d'.size ≤ 4294967296) {ok : Blk} (hok : ok g fe) :
    RdL sz E (sortWorldK celEnc sz w g 0 n d' os) ok (.slice (some ⟨g, 0, none⟩) d'.size cap) (d'.toList.map celX) := by
  have hg : g < w.heap.size := (Array.getElem?_eq_some_iff.1 hb).1
  have hH2 : HoldsK celEnc sz (sortWorldK celEnc sz w g 0 n d' os) g 0 d' := by
    unfold sortWorldK
    exact holdsK_grow _ _ _ _ _ _ _ (by simpa [putRowK] using hg) (holdsK_putRowK _ _ _ _ _ _ _ (holdsK_ahead _ _ _ _ _ _ _ hH) hs)
  have hb2 := sortedK_heap (sz := sz) (n := n) (os := os) d' hb
  refine ⟨_, cap, by simp, by simpa using hc, by simpa using hl, fun _ => ⟨g, 0, _, fe, (0, 0), rfl, Okf.soft hok, hb2, fun j x hj => ?_⟩⟩
  rw [List.getElem?_map, Array.getElem?_toList] at hj
  obtain ⟨p, hp, rfl⟩ := Option.map_eq_some_iff.1 hj
  obtain ⟨hlt, rfl⟩ := Array.getElem?_eq_some_iff.1 hp
  obtain ⟨h1, h2⟩ := hE _ _ d'[j].2
  refine ⟨celEnc d'[j], h1, d'[j].2, h2, fun i u hu => ?_⟩
  have hi : i < sz := by have := (List.getElem?_eq_some_iff.1 hu).1; rw [← h1]; exact this
  have h3 := (hH2.cell hlt hi).1
  rw [Lib.cell_of_heap hb2] at h3
  rw [h3, getElem!_pos d' _ hlt]
  obtain ⟨h4, rfl⟩ := List.getElem?_eq_some_iff.1 hu
  rw [getElem!_pos (celEnc d'[j]) i h4]
theorem perm_cels {d d' : Array (Cel E)} (h : PermIn 0 d.size d d') : (d'.toList.map celX).Perm (d.toList.map celX) := by
  obtain ⟨h1, _, h3⟩ := h
  have e1 : d.extract 0 d.size = d := by simp
  have e2 : d'.extract 0 d.size = d' := by rw [← h1]; simp
  rw [e1, e2] at h3
  exact h3.map _
theorem sorted_cels {cf : X → X → Int} {d d' : Array (Cel E)} (hs : d'.size = d.size) (h : SortedIn (ltOf fun (p q : Cel E) => cf (celX p) (celX q)) 0 d.size d') : (d'.toList.map celX).Pairwise fun x y => ¬ cf y x < 0 := by
  rw [List.pairwise_map, List.pairwise_iff_getElem]
  intro i j hi hj hij
  have := h i j (Nat.zero_le _) hij (by rw [← hs]; simpa using hj)
  simp only [Array.length_toList] at hi hj
  rw [getElem!_pos d' j hj, getElem!_pos d' i hi] at this
  simpa [ltOf] using this
end
/-- A sorted list without ties rises. -/
theorem rise_of_sorted {z : List GI} (h : z.Pairwise fun x y => ¬ y.cmp x < 0) (hn : z.Pairwise fun x y => x.cmp y ≠ 0) : Rise z := by
  refine (h.and hn).imp fun {x y} ⟨h1, h2⟩ => ?_
  have := gicmp.flip y x
  have := gicmp.flip x y
  omega
theorem enters_compare (args : Array Value) (w : World) : (callFunc 36 args).run Tryz.prog w = .ok (.enter 36 args) w := (enters_of Tryz.func36 (by kernel_rfl) rfl) args w
theorem sortItems_any (base : Nat) (v : Value) (xs : List GI) (ok : Blk) (w : World) (h : OwnL 4 (EIt w ok) 72 w base v xs) (hne : 0 < xs.length) :
    Calls Tryz.prog 35 #[v, .func (.func 36) #[] #[]] w fun e w' => e = .returned (.tuple #[]) ∧ w.grownBy w' v.ownBlock ∧
      ∃ xs', xs'.Perm xs ∧ (xs'.Pairwise fun x y => ¬ y.cmp x < 0) ∧ ∀ ok', (∀ k, base ≤ k → ok' k 72) → RdL 4 (EIt w ok) w' ok' v xs' := by
  have h0 := h
  obtain ⟨cs, ho, hr, h1, hl⟩ := h
  rcases ho.2 with ⟨_, hn⟩ | ⟨g, cap, cur, rfl, hg, hh, hc, hcm, hs, ht⟩
  · omega
  obtain ⟨dl, hd1, hd2⟩ := own_cels (by decide) h0 hne
  have hE : ∀ x cs, EIt w ok x cs → cs.length = 4 ∧ ∀ u ∈ cs, u.oneCell' = true := by
    rintro x cs ⟨v, rfl, _, _, _, hv⟩
    obtain ⟨A, d, rfl, _⟩ := hv.shape
    exact ⟨rfl, by simp [Value.oneCell']⟩
  have hdl : dl.length = xs.length := by have := congrArg List.length hd1; simpa using this
  haveI : Inhabited (Cel (EIt w ok)) := ⟨dl[0]'(by omega)⟩
  have hH := holds_cels (fun x cs h => (hE x cs h).1) hh hd2
  have hO : SWO (ltOf fun (p q : Cel (EIt w ok)) => GI.cmp (celX p) (celX q)) := (gicmp.comap celX).swo
  have hcmp : CmpLays Tryz.prog 36 #[] (celEnc (E := EIt w ok)) 4 (fun p q => GI.cmp (celX p) (celX q)) g 0 dl.toArray.size w := by
    intro m os dk _ p q
    have hsh : ∀ p : Cel (EIt w ok), ∃ A n d, celEnc p = [.string (celX p).key, .string (celX p).enc, .slice A n d, .int .i64 (celX p).size] := fun p => by
      obtain ⟨v, hc, _, _, _, hx⟩ := p.2
      obtain ⟨A, d, rfl, _⟩ := hx.shape
      exact ⟨A, _, d, hc⟩
    obtain ⟨A, n, c, h1⟩ := hsh p
    obtain ⟨B, m', d, h2⟩ := hsh q
    rw [h1, h2]
    exact compare_any A B n m' c d (celX p).key (celX p).enc (celX q).key (celX q).enc (celX p).size (celX q).size _
  have hS := AnyQ.slices_SortFunc Tryz.sortItems 4 (fun w => Tryz.isAgg72 w) (fun w => Tryz.sizeOf72 w) (celEnc (E := EIt w ok)) (fun p => (hE _ _ p.2).1) (fun p => (hE _ _ p.2).2) _ hO 36 #[] g 0 cap dl.toArray w enters_compare hcmp hH (Array.getElem?_eq_some_iff.1 hh).1 (by simp; omega)
  rw [show dl.toArray.size = xs.length by simpa using hdl] at hS
  refine hS.mono fun e w' ⟨he, d', n, os, hp, hso, hw⟩ => ⟨he, ?_, d'.toList.map celX, ?_, ?_, fun ok' hok' => ?_⟩
  · subst hw; exact sortedK_grown d'
  · have := perm_cels (d := dl.toArray) (d' := d') (by simpa [hdl] using hp)
    rw [← hd1]; simpa using this
  · exact sorted_cels (d := dl.toArray) (by simpa [hdl] using hp.1) (by simpa [hdl] using hso)
  · subst hw
    have hsz : d'.size = xs.length := by have := hp.1; simpa [hdl] using this
    have := sortedK_rd (n := n) (os := os) (cap := cap) hE dl.toArray d' hh hH hp.1 (by omega) (by omega) (hok' g hg)
    rwa [hsz] at this
end Go.Proofs.YtmpndmjfdijamaaGreatDoor
