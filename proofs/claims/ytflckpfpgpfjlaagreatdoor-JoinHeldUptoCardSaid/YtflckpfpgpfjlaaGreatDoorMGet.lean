/- Slices of the call's own, sorted: the shelf's contract in the words of OwnL; the sort of items. Sound values and rows stand in one order, and equal ones are one. The sort of entries: slices.SortFunc over the shelf's pdqsort. The walk of spine.entries: items as a multiset. The walk of a spine's All. The walk of a spine's Get. -/
import Derived.Test.YtflckpfpgpfjlaaGreatDoorMSettle
import Derived.Test.YtflckpfpgpfjlaaGreatDoorMBase
import Derived.Test.YtflckpfpgpfjlaaGreatDoorMCmp
import Derived.Shelf.SlSortCmp.WholeK
import Derived.Deep.RegionLaw
set_option linter.unusedVariables false
set_option linter.unusedSimpArgs false
section
namespace Go.Proofs.YtflckpfpgpfjlaaGreatDoor
open Go.RowKit Go.Sort
theorem Cmp.swo {α : Type} {c : α → α → Int} (h : Cmp c) : SWO (ltOf c) where
  irrefl x := by simp [ltOf, h.refl]
  trans x y z h1 h2 := by
    simp only [ltOf, decide_eq_true_eq] at *
    exact h.lt_trans h1 h2
  ntrans x y z h1 h2 := by
    simp only [ltOf, decide_eq_false_iff_not] at *
    intro h3
    have a1 := h.flip x y
    have a2 := h.flip y z
    have a3 := h.flip x z
    have b1 : c y x ≤ 0 := by have := h.flip y x; omega
    have b2 : c z y ≤ 0 := by have := h.flip z y; omega
    have := h.trans z y x b2 b1
    have := h.flip z x
    omega
section
variable {X : Type} {sz : Nat} {E : X → List Value → Prop} {e : TypeId} {base g cap : Nat} {w : World} {xs : List X}
/-- An element and its cells. -/
abbrev Cel (E : X → List Value → Prop) : Type := { p : X × List Value // E p.1 p.2 }
def celEnc (p : Cel E) : List Value := p.1.2
def celX (p : Cel E) : X := p.1.1
theorem own_cels (hsz : 0 < sz) (h : OwnL sz E e w base (.slice (some ⟨g, 0, none⟩) xs.length cap) xs) (hne : 0 < xs.length) :
    ∃ (d : List (Cel E)), d.map celX = xs ∧ ∀ j p, d[j]? = some p → ∀ i u, (celEnc p)[i]? = some u → i < sz → w.cell? ⟨g, j * sz + i, none⟩ = some u := by
  obtain ⟨cs, ho, hr, h1, hl⟩ := h
  have hrd := (OwnL.rd ⟨cs, ho, hr, h1, hl⟩ (ok := AnyB) fun _ _ => trivial)
  have key : ∀ m, m ≤ xs.length → ∃ (d : List (Cel E)), d.map celX = xs.take m ∧ ∀ j p, d[j]? = some p → ∀ i u, (celEnc p)[i]? = some u → i < sz → w.cell? ⟨g, j * sz + i, none⟩ = some u := by
    intro m
    induction m with
    | zero => intro _; exact ⟨[], by simp, by simp⟩
    | succ m ih =>
      intro hm
      obtain ⟨d, hd1, hd2⟩ := ih (by omega)
      obtain ⟨b, o, c, hv, _, cs', e1, e2, e3, e4⟩ := hrd.at (List.getElem?_eq_getElem (show m < xs.length by omega))
      injection hv with hA _ _
      injection hA with hA
      injection hA with hg ho' _
      subst hg
      subst ho'
      have hdl : d.length = m := by have := congrArg List.length hd1; simpa [Nat.min_eq_left (show m ≤ xs.length by omega)] using this
      refine ⟨d ++ [⟨(xs[m], cs'), e2⟩], ?_, fun j p hj i u hu hi => ?_⟩
      · rw [List.map_append, hd1, List.take_succ_eq_append_getElem (by omega)]; rfl
      · rcases Nat.lt_or_ge j d.length with hlt | hge
        · rw [List.getElem?_append_left hlt] at hj; exact hd2 j p hj i u hu hi
        · rw [List.getElem?_append_right hge] at hj
          have hj0 : j - d.length = 0 := by
            have := (List.getElem?_eq_some_iff.1 hj).1
            simpa using this
          rw [hj0] at hj
          obtain rfl : j = m := by omega
          have : p = ⟨(xs[j], cs'), e2⟩ := by simpa using hj.symm
          subst this
          have := e4 i u hu
          rwa [Nat.zero_add] at this
  obtain ⟨d, h2, h3⟩ := key xs.length (Nat.le_refl _)
  exact ⟨d, by rw [h2, List.take_length], h3⟩
variable [Inhabited (Cel E)]
theorem holds_cels (hE : ∀ x cs, E x cs → cs.length = sz) {cur : Array Value} {fe : TypeId} (hb : w.heap[g]? = some (.cells cur fe (0, 0))) {d : List (Cel E)}
    (hd : ∀ j p, d[j]? = some p → ∀ i u, (celEnc p)[i]? = some u → i < sz → w.cell? ⟨g, j * sz + i, none⟩ = some u) : HoldsK celEnc sz w g 0 d.toArray := by
  intro t ht
  rw [size_flatK] at ht
  have hs : 0 < sz := by rcases Nat.eq_zero_or_pos sz with h | h
                         · subst h; simp at ht
                         · exact h
  have hj : t / sz < d.length := by
    rw [Nat.div_lt_iff_lt_mul hs]; simpa using ht
  have hm := Nat.mod_lt t hs
  have hlen : (celEnc d[t / sz]).length = sz := hE _ _ d[t / sz].2
  refine ⟨?_, Lib.frozen_of_heap hb _⟩
  have h1 := hd (t / sz) d[t / sz] (List.getElem?_eq_getElem hj) (t % sz) (celEnc d[t / sz])[t % sz] (List.getElem?_eq_getElem (by omega)) hm
  rw [Nat.mul_comm, Nat.div_add_mod] at h1
  rw [Nat.zero_add, h1, get_flatK _ _ _ _ ht]
  congr 1
  show (celEnc d[t / sz])[t % sz] = (celEnc (d.toArray[t / sz]!))[t % sz]!
  rw [getElem!_pos d.toArray _ (by simpa using hj)]
  simp only [List.getElem_toArray]
  rw [getElem!_pos _ _ (by omega)]
theorem sortedK_heap {n : Nat} {os : Array Obj} {cur : Array Value} {fe : TypeId} {fr : Nat × Nat} (d : Array (Cel E)) (hb : w.heap[g]? = some (.cells cur fe fr)) :
    (sortWorldK celEnc sz w g 0 n d os).heap[g]? = some (.cells (putCells id 0 (flatK celEnc sz d) cur) fe fr) := by
  have hg : g < w.heap.size := (Array.getElem?_eq_some_iff.1 hb).1
  unfold sortWorldK putRowK
  rw [heap_grow_old _ _ (by simpa using hg)]
  simp [putRow, mapBlock, Sort.ahead, Array.getElem?_modify, hb, onCells]
theorem sortedK_grown {n : Nat} {os : Array Obj} (d : Array (Cel E)) : w.grownBy (sortWorldK celEnc sz w g 0 n d os) (some g) := by
  unfold sortWorldK putRowK
  refine ⟨rfl, rfl, rfl, by simp, fun k hk hne => ?_⟩
  rw [heap_grow_old _ _ (by simpa using hk)]
  have : g ≠ k := fun e => hne (by rw [e])
  simp [putRow, mapBlock, Sort.ahead, Array.getElem?_modify, this]
theorem sortedK_rd {n : Nat} {os : Array Obj} {cur : Array Value} {fe : TypeId} (hE : ∀ x cs, E x cs → cs.length = sz ∧ ∀ u ∈ cs, u.oneCell' = true) (d d' : Array (Cel E)) (hb : w.heap[g]? = some (.cells cur fe (0, 0))) (hH : HoldsK celEnc sz w g 0 d) (hs : d'.size = d.size) (hc : d'.size ≤ cap) (hl : d'.size ≤ 4294967296) {ok : Blk} (hok : ok g fe) :
    RdL sz E (sortWorldK celEnc sz w g 0 n d' os) ok (.slice (some ⟨g, 0, none⟩) d'.size cap) (d'.toList.map celX) := by
  have hg : g < w.heap.size := (Array.getElem?_eq_some_iff.1 hb).1
  have hH2 : HoldsK celEnc sz (sortWorldK celEnc sz w g 0 n d' os) g 0 d' := by
    unfold sortWorldK
    exact holdsK_grow _ _ _ _ _ _ _ (by simpa [putRowK] using hg) (holdsK_putRowK _ _ _ _ _ _ _ (holdsK_ahead _ _ _ _ _ _ _ hH) hs)
  have hb2 := sortedK_heap (sz := sz) (n := n) (os := os) d' hb
  refine ⟨_, cap, by simp, by simpa using hc, by simpa using hl, fun _ => ⟨g, 0, _, fe, (0, 0), rfl, Okf.soft hok, hb2, fun j x hj => ?_⟩⟩
  rw [List.getElem?_map, Array.getElem?_toList] at hj
  obtain ⟨p, hp, rfl⟩ := Option.map_eq_some_iff.1 hj
  obtain ⟨hlt, rfl⟩ := Array.getElem?_eq_some_iff.1 hp
  obtain ⟨h1, h2⟩ := hE _ _ d'[j].2
  refine ⟨celEnc d'[j], h1, d'[j].2, h2, fun i u hu => ?_⟩
  have hi : i < sz := by have := (List.getElem?_eq_some_iff.1 hu).1; rw [← h1]; exact this
  have h3 := (hH2.cell hlt hi).1
  rw [Lib.cell_of_heap hb2] at h3
  rw [h3, getElem!_pos d' _ hlt]
  obtain ⟨h4, rfl⟩ := List.getElem?_eq_some_iff.1 hu
  rw [getElem!_pos (celEnc d'[j]) i h4]
theorem perm_cels {d d' : Array (Cel E)} (h : PermIn 0 d.size d d') : (d'.toList.map celX).Perm (d.toList.map celX) := by
  obtain ⟨h1, _, h3⟩ := h
  have e1 : d.extract 0 d.size = d := by simp
  have e2 : d'.extract 0 d.size = d' := by rw [← h1]; simp
  rw [e1, e2] at h3
  exact h3.map _
theorem sorted_cels {cf : X → X → Int} {d d' : Array (Cel E)} (hs : d'.size = d.size) (h : SortedIn (ltOf fun (p q : Cel E) => cf (celX p) (celX q)) 0 d.size d') : (d'.toList.map celX).Pairwise fun x y => ¬ cf y x < 0 := by
  rw [List.pairwise_map, List.pairwise_iff_getElem]
  intro i j hi hj hij
  have := h i j (Nat.zero_le _) hij (by rw [← hs]; simpa using hj)
  simp only [Array.length_toList] at hi hj
  rw [getElem!_pos d' j hj, getElem!_pos d' i hi] at this
  simpa [ltOf] using this
end
/-- A sorted list without ties rises. -/
theorem rise_of_sorted {z : List GI} (h : z.Pairwise fun x y => ¬ y.cmp x < 0) (hn : z.Pairwise fun x y => x.cmp y ≠ 0) : Rise z := by
  refine (h.and hn).imp fun {x y} ⟨h1, h2⟩ => ?_
  have := gicmp.flip y x
  have := gicmp.flip x y
  omega
theorem enters_compare (args : Array Value) (w : World) : (callFunc 79 args).run Tryz.prog w = .ok (.enter 79 args) w := (enters_of Tryz.func79 (by kernel_rfl) rfl) args w
theorem sortItems_any (base : Nat) (v : Value) (xs : List GI) (ok : Blk) (w : World) (h : OwnL 4 (EIt w ok) 122 w base v xs) (hne : 0 < xs.length) :
    Calls Tryz.prog 78 #[v, .func (.func 79) #[] #[]] w fun e w' => e = .returned (.tuple #[]) ∧ w.grownBy w' v.ownBlock ∧
      ∃ xs', xs'.Perm xs ∧ (xs'.Pairwise fun x y => ¬ y.cmp x < 0) ∧ ∀ ok', (∀ k, base ≤ k → ok' k 122) → RdL 4 (EIt w ok) w' ok' v xs' := by
  have h0 := h
  obtain ⟨cs, ho, hr, h1, hl⟩ := h
  rcases ho.2 with ⟨_, hn⟩ | ⟨g, cap, cur, rfl, hg, hh, hc, hcm, hs, ht⟩
  · omega
  obtain ⟨dl, hd1, hd2⟩ := own_cels (by decide) h0 hne
  have hE : ∀ x cs, EIt w ok x cs → cs.length = 4 ∧ ∀ u ∈ cs, u.oneCell' = true := by
    rintro x cs ⟨v, rfl, _, _, _, hv⟩
    obtain ⟨A, d, rfl, _⟩ := hv.shape
    exact ⟨rfl, by simp [Value.oneCell']⟩
  have hdl : dl.length = xs.length := by have := congrArg List.length hd1; simpa using this
  haveI : Inhabited (Cel (EIt w ok)) := ⟨dl[0]'(by omega)⟩
  have hH := holds_cels (fun x cs h => (hE x cs h).1) hh hd2
  have hO : SWO (ltOf fun (p q : Cel (EIt w ok)) => GI.cmp (celX p) (celX q)) := (gicmp.comap celX).swo
  have hcmp : CmpLays Tryz.prog 79 #[] (celEnc (E := EIt w ok)) 4 (fun p q => GI.cmp (celX p) (celX q)) g 0 dl.toArray.size w := by
    intro m os dk _ p q
    have hsh : ∀ p : Cel (EIt w ok), ∃ A n d, celEnc p = [.string (celX p).key, .string (celX p).enc, .slice A n d, .int .i64 (celX p).size] := fun p => by
      obtain ⟨v, hc, _, _, _, hx⟩ := p.2
      obtain ⟨A, d, rfl, _⟩ := hx.shape
      exact ⟨A, _, d, hc⟩
    obtain ⟨A, n, c, h1⟩ := hsh p
    obtain ⟨B, m', d, h2⟩ := hsh q
    rw [h1, h2]
    exact compare_any A B n m' c d (celX p).key (celX p).enc (celX q).key (celX q).enc (celX p).size (celX q).size _
  have hS := AnyQ.slices_SortFunc Tryz.sortItems 4 (fun w => Tryz.isAgg122 w) (fun w => Tryz.sizeOf122 w) (celEnc (E := EIt w ok)) (fun p => (hE _ _ p.2).1) (fun p => (hE _ _ p.2).2) _ hO 79 #[] g 0 cap dl.toArray w enters_compare hcmp hH (Array.getElem?_eq_some_iff.1 hh).1 (by simp; omega)
  rw [show dl.toArray.size = xs.length by simpa using hdl] at hS
  refine hS.mono fun e w' ⟨he, d', n, os, hp, hso, hw⟩ => ⟨he, ?_, d'.toList.map celX, ?_, ?_, fun ok' hok' => ?_⟩
  · subst hw; exact sortedK_grown d'
  · have := perm_cels (d := dl.toArray) (d' := d') (by simpa [hdl] using hp)
    rw [← hd1]; simpa using this
  · exact sorted_cels (d := dl.toArray) (by simpa [hdl] using hp.1) (by simpa [hdl] using hso)
  · subst hw
    have hsz : d'.size = xs.length := by have := hp.1; simpa [hdl] using this
    have := sortedK_rd (n := n) (os := os) (cap := cap) hE dl.toArray d' hh hH hp.1 (by omega) (by omega) (hok' g hg)
    rwa [hsz] at this
end Go.Proofs.YtflckpfpgpfjlaaGreatDoor
end
section
namespace Go.Proofs.YtflckpfpgpfjlaaGreatDoor
open Go.RowKit Go.Sort
theorem icmp_cmp : Cmp icmp where
  refl a := by simp [icmp]
  flip a b := by unfold icmp; repeat' split <;> omega
  trans a b d h1 h2 := by unfold icmp at *; repeat' split at * <;> omega
theorem icmp_eq {a b : Int} (h : icmp a b = 0) : a = b := by unfold icmp at h; repeat' split at h <;> omega
/-- Values by kind, float, text and number. -/
def vlex (a b : GV) : Int := orv (icmp a.k b.k) (orv (icmp (fkey a.f.toNat) (fkey b.f.toNat)) (orv (scmp a.t b.t) (icmp a.n b.n)))
theorem vlex_cmp : Cmp vlex := (icmp_cmp.comap GV.k).orv ((icmp_cmp.comap fun x : GV => fkey x.f.toNat).orv ((scmp_cmp.comap GV.t).orv (icmp_cmp.comap GV.n)))
theorem orv_zero {a b : Int} (h : orv a b = 0) : a = 0 ∧ b = 0 := by unfold orv at h; split at h <;> simp_all
/-- What a sound value's fields are. -/
theorem vsound_parts {x : GV} (h : vsound x = true) : vplain x.f = x.f ∧ (x.k ≠ 3 → x.f = 0) ∧ (x.k ≠ 4 → x.t = ⟨#[]⟩) ∧ (x.k = 3 ∨ x.k = 4 → x.n = 0) := by
  have hz : vplain 0 = 0 := by
    unfold vplain
    rw [fnan_rung]
    simp [frung]
  have ht : ∀ t : ByteArray, t.toList = [] → t = ⟨#[]⟩ := fun t h => by
    rw [ByteArray.toList_eq] at h
    cases t with
    | mk d =>
      congr 1
      exact Array.toList_eq_nil_iff.1 h
  have hk := vsound_kind h
  unfold vsound eqGV at h
  rcases hk with hk | hk | hk | hk | ⟨hk, _⟩
  all_goals simp only [hk] at h ⊢
  all_goals simp at h
  · exact ⟨by rw [h.2.1, hz], fun _ => h.2.1, fun _ => ht _ h.2.2, fun h => by omega⟩
  · exact ⟨by rw [h.2.1, hz], fun _ => h.2.1, fun _ => ht _ h.2.2, fun h => by omega⟩
  · exact ⟨by rw [h.1, hz], fun _ => h.1, fun _ => ht _ h.2, fun h => by omega⟩
  · exact ⟨h.2.1.symm, fun h => absurd rfl h, fun _ => ht _ h.2.2, fun _ => h.1⟩
  · exact ⟨by rw [h.1.2, hz], fun _ => h.1.2, fun h => absurd rfl h, fun _ => h.1.1⟩
theorem vcmp_lex {a b : GV} (ha : vsound a = true) (hb : vsound b = true) : vcmp a b = vlex a b := by
  obtain ⟨a1, a2, a3, a4⟩ := vsound_parts ha
  obtain ⟨b1, b2, b3, b4⟩ := vsound_parts hb
  unfold vcmp vlex
  rw [if_neg (by simp [ha, hb])]
  by_cases hk : a.k = b.k
  · rw [if_neg (by simpa using hk), show icmp a.k b.k = 0 by rw [hk]; exact icmp_cmp.refl _]
    have o1 : ∀ x, orv 0 x = x := fun x => by simp [orv]
    rw [o1]
    by_cases h3 : a.k = 3
    · rw [if_pos h3, fcmp_key, a3 (by omega), b3 (by omega), a4 (.inl h3), b4 (.inl (by omega)), scmp_cmp.refl, o1, icmp_cmp.refl]
      generalize icmp _ _ = q
      unfold orv
      split <;> simp_all
    · rw [if_neg h3, a2 h3, b2 (by omega), icmp_cmp.refl, o1]
      by_cases h4 : a.k = 4
      · rw [if_pos h4, a4 (.inr h4), b4 (.inr (by omega)), icmp_cmp.refl]
        unfold orv
        split <;> simp_all
      · rw [if_neg h4, a3 h4, b3 (by omega), scmp_cmp.refl, o1]
  · rw [if_pos hk]
    have : icmp a.k b.k ≠ 0 := fun h => hk (icmp_eq h)
    unfold orv
    rw [if_pos this]
theorem vlex_eq {a b : GV} (oa : a.Ok) (ob : b.Ok) (ha : vsound a = true) (hb : vsound b = true) (h : vlex a b = 0) : a = b := by
  obtain ⟨h1, h2⟩ := orv_zero h
  obtain ⟨h2, h3⟩ := orv_zero h2
  obtain ⟨h3, h4⟩ := orv_zero h3
  have e1 := icmp_eq h1
  have e2 := fkey_inj oa.f ob.f (vsound_parts ha).1 (vsound_parts hb).1 (icmp_eq h2)
  have e3 := scmp_eq h3
  have e4 := icmp_eq h4
  cases a; cases b
  simp_all
def rlex : List GV → List GV → Int
  | [], [] => 0
  | [], _ :: _ => -1
  | _ :: _, [] => 1
  | a :: r, b :: s => orv (vlex a b) (rlex r s)
theorem rlex_cmp : Cmp rlex where
  refl r := by
    induction r with
    | nil => rfl
    | cons a r ih => simp [rlex, vlex_cmp.refl, ih, orv]
  flip r := by
    induction r with
    | nil => intro s; cases s <;> simp [rlex]
    | cons a r ih =>
      intro s
      cases s with
      | nil => simp [rlex]
      | cons b s =>
        have h1 := ih s
        have h2 := vlex_cmp.flip a b
        have h3 := vlex_cmp.flip b a
        simp only [rlex, orv]
        repeat' split <;> omega
  trans r := by
    induction r with
    | nil => intro s t; cases s <;> cases t <;> simp [rlex]
    | cons a r ih =>
      intro s t
      cases s with
      | nil => simp [rlex]
      | cons b s =>
        cases t with
        | nil => simp [rlex]
        | cons c t =>
          intro h1 h2
          have k1 := ih s t
          have k2 := vlex_cmp.trans a b c
          have k3 := vlex_cmp.eqv a c
          have k4 := vlex_cmp.eqv a b
          have k5 := vlex_cmp.eqv b c
          have k6 := vlex_cmp.trans b c a
          have k7 := vlex_cmp.trans c a b
          have k8 := vlex_cmp.flip a b
          have k9 := vlex_cmp.flip b c
          have k10 := vlex_cmp.flip c a
          simp only [rlex, orv] at h1 h2 ⊢
          generalize vlex a b = p1 at *
          generalize vlex b c = p2 at *
          generalize vlex a c = p3 at *
          generalize vlex b a = p4 at *
          generalize vlex c b = p5 at *
          generalize vlex c a = p6 at *
          generalize rlex r s = q1 at *
          generalize rlex s t = q2 at *
          generalize rlex r t = q3 at *
          clear ih
          split at h1 <;> split at h2 <;> split <;> omega
theorem rcmp0_lex : ∀ {r s : List GV}, (∀ x ∈ r, vsound x = true) → (∀ x ∈ s, vsound x = true) → rcmp0 r s = rlex r s
  | [], [], _, _ => rfl
  | [], _ :: _, _, _ => rfl
  | _ :: _, [], _, _ => rfl
  | a :: r, b :: s, hr, hs => by
    simp only [rcmp0, rlex, orv]
    rw [vcmp_lex (hr a (by simp)) (hs b (by simp)), rcmp0_lex (fun x hx => hr x (List.mem_cons_of_mem _ hx)) (fun x hx => hs x (List.mem_cons_of_mem _ hx))]
theorem rcmp_lex {r s : List GV} (hr : rsound r = true) (hs : rsound s = true) : rcmp r s = rlex r s := by
  unfold rcmp
  rw [if_neg (by simp [hr, hs])]
  exact rcmp0_lex (rsound_at hr).2 (rsound_at hs).2
theorem rlex_eq : ∀ {r s : List GV}, (∀ x ∈ r, x.Ok) → (∀ x ∈ s, x.Ok) → (∀ x ∈ r, vsound x = true) → (∀ x ∈ s, vsound x = true) → rlex r s = 0 → r = s
  | [], [], _, _, _, _, _ => rfl
  | [], _ :: _, _, _, _, _, h => by simp [rlex] at h
  | _ :: _, [], _, _, _, _, h => by simp [rlex] at h
  | a :: r, b :: s, o1, o2, h1, h2, h => by
    obtain ⟨e1, e2⟩ := orv_zero h
    rw [vlex_eq (o1 a (by simp)) (o2 b (by simp)) (h1 a (by simp)) (h2 b (by simp)) e1,
      rlex_eq (fun x hx => o1 x (List.mem_cons_of_mem _ hx)) (fun x hx => o2 x (List.mem_cons_of_mem _ hx)) (fun x hx => h1 x (List.mem_cons_of_mem _ hx)) (fun x hx => h2 x (List.mem_cons_of_mem _ hx)) e2]
end Go.Proofs.YtflckpfpgpfjlaaGreatDoor
end
section
namespace Go.Proofs.YtflckpfpgpfjlaaGreatDoor
open Go.RowKit Go.Sort
theorem entries1_any (A B : Option Addr) (n m c d : Nat) (wa wb : Int) (r s : List GV) (w : World) (hr : RdV w AnyB (.slice A n c) r) (hs : RdV w AnyB (.slice B m d) s) :
    Calls Tryz.prog 130 #[.agg #[.slice A n c, .int .i64 wa], .agg #[.slice B m d, .int .i64 wb]] w fun e w' => e = .returned (.int .i64 (rcmp r s)) ∧ Ext w w' := by
  have h1 := fun W (hE : Ext w W) => rCompare_any _ _ r s W (hr.ext hE.below) (hs.ext hE.below)
  clear hr hs
  go_enter Tryz.func130, Tryz.ntmps130
  go_wp2_with (go_at_call 77; refine (h1 _ (by repeat (first | (with_reducible exact Ext.refl _) | (with_reducible assumption) | (with_reducible apply Ext.alloc) | (with_reducible apply Ext.drewN) | (with_reducible apply Ext.drew) | (with_reducible apply Ext.grow) | (with_reducible refine Ext.trans ?_ (by with_reducible assumption))))).mono ?_; rintro e w3 ⟨rfl, hE⟩)
  go_ret
  exact ⟨rfl, (by repeat (first | (with_reducible exact Ext.refl _) | (with_reducible assumption) | (with_reducible apply Ext.alloc) | (with_reducible apply Ext.drewN) | (with_reducible apply Ext.drew) | (with_reducible apply Ext.grow) | (with_reducible refine Ext.trans ?_ (by with_reducible assumption))))⟩
theorem enters_entries1 (args : Array Value) (w : World) : (callFunc 130 args).run Tryz.prog w = .ok (.enter 130 args) w := (enters_of Tryz.func130 (by kernel_rfl) rfl) args w
/-- An entry whose row is sound. -/
def EES (w : World) (ok : Blk) (x : GE) (cs : List Value) : Prop := EE w ok x cs ∧ rsound x.row = true
theorem OwnL.and {α : Type} {sz : Nat} {E : α → List Value → Prop} {P : α → Prop} {e : TypeId} {w : World} {base : Nat} {v : Value} {xs : List α} (h : OwnL sz E e w base v xs) (hP : ∀ x ∈ xs, P x) : OwnL sz (fun x cs => E x cs ∧ P x) e w base v xs := by
  obtain ⟨cs, ho, hr, h1, hl⟩ := h
  exact ⟨cs, ho, ⟨hr.1, fun j x hj => ⟨hr.2 j x hj, hP x (List.mem_of_getElem? hj)⟩⟩, h1, hl⟩
theorem bitsLen_any (n : Int) (w : World) (h0 : 0 ≤ n) (h1 : n ≤ 18446744073709551615) : Calls Tryz.prog 134 #[.int .u64 n] w fun e w' => e = .returned (.int .i64 (Lib.bitLen n.toNat : Nat)) ∧ w' = w :=
  Any.bits_Len (SlLaysF0.n15.bits (P := Tryz.prog) (ρ := Tryz.pdqEntries_ren) { Tryz.pdqEntries with }) n w h0 h1
set_option maxRecDepth 100000 in
theorem sortEntries_nil (w : World) : Calls Tryz.prog 129 #[.slice none 0 0, .func (.func 130) #[] #[]] w fun e w' => e = .returned (.tuple #[]) ∧ w = w' := by
  have h1 : Calls Tryz.prog 166 #[.slice none 0 0, .int .i64 0, .int .i64 0, .func (.func 130) #[] #[]] w fun e w' => e = .returned (.tuple #[]) ∧ w = w' := by
    go_enter Tryz.func166, Tryz.ntmps166
    go_wp2_with fail
    go_loopg [8] 0 (fun g s8 wr => s8 = .int .i64 1 ∧ w = wr)
    case atStart => exact ⟨rfl, rfl⟩
    case round =>
      obtain ⟨rfl, rfl⟩ := hrel
      go_wp2
      go_end0
      exact ⟨rfl, rfl⟩
  have h2 : Calls Tryz.prog 171 #[.slice none 0 0, .int .i64 0, .int .i64 0, .int .i64 0, .func (.func 130) #[] #[]] w fun e w' => e = .returned (.tuple #[]) ∧ w = w' := by
    go_enter Tryz.func171, Tryz.ntmps171
    go_wp2_with fail
    go_loopg [1, 2, 3, 10, 11] 0 (fun g s1 s2 s3 s10 s11 wr => s1 = .int .i64 0 ∧ s2 = .int .i64 0 ∧ w = wr)
    case atStart => exact ⟨rfl, rfl, rfl⟩
    case round =>
      obtain ⟨rfl, rfl, rfl⟩ := hrel
      go_wp2_with (go_at_call 166; refine h1.mono ?_; rintro e w1 ⟨rfl, rfl⟩)
      refine bodyPost_ret (results_none rfl _ _ _) rfl ?_
      exact ⟨rfl, rfl⟩
  go_enter Tryz.func129, Tryz.ntmps129
  go_wp2_with (first | (go_at_call 134; refine (bitsLen_any 0 _ (by decide) (by decide)).mono ?_; rintro e w1 ⟨rfl, rfl⟩) | (go_at_call 171; refine h2.mono ?_; rintro e w1 ⟨rfl, rfl⟩))
  go_end0
  exact ⟨rfl, rfl⟩
theorem sortEntries_any (base : Nat) (v : Value) (xs : List GE) (ok : Blk) (w : World) (h : OwnL 2 (EE w ok) 66 w base v xs) (hs : ∀ x ∈ xs, rsound x.row = true) (hnil : xs = [] → v = .slice none 0 0) (hok : ∀ k, ¬ ok k 66) :
    Calls Tryz.prog 129 #[v, .func (.func 130) #[] #[]] w fun e w' => e = .returned (.tuple #[]) ∧ w.grownBy w' v.ownBlock ∧
      ∃ xs', xs'.Perm xs ∧ (xs'.Pairwise fun x y => ¬ rlex y.row x.row < 0) ∧ ∀ ok', (∀ k, base ≤ k → ok' k 66) → RdL 2 (EE w ok) w' ok' v xs' := by
  by_cases hne : xs = []
  · rw [hnil hne]
    subst hne
    refine (sortEntries_nil w).mono fun e w' ⟨he, hw⟩ => ⟨he, ?_, [], List.Perm.refl _, List.Pairwise.nil, fun ok' _ => RdL.nil _ _ _ _⟩
    subst hw
    exact ⟨rfl, rfl, rfl, Nat.le_refl _, fun _ _ _ => rfl⟩
  have hne : 0 < xs.length := List.length_pos_iff.2 hne
  have h := h.and (P := fun x => rsound x.row = true) hs
  have h0 := h
  obtain ⟨cs, ho, hr, h1, hl⟩ := h
  rcases ho.2 with ⟨_, hn⟩ | ⟨g, cap, cur, rfl, hg, hh, hc, hcm, hs, ht⟩
  · omega
  obtain ⟨dl, hd1, hd2⟩ := own_cels (by decide) h0 hne
  have hE : ∀ x cs, (EE w ok x cs ∧ rsound x.row = true) → cs.length = 2 ∧ ∀ u ∈ cs, u.oneCell' = true := by
    rintro x cs ⟨⟨v, rfl, _, hv⟩, _⟩
    obtain ⟨A, d, rfl, _⟩ := hv.shape
    exact ⟨rfl, by simp [Value.oneCell']⟩
  have hdl : dl.length = xs.length := by have := congrArg List.length hd1; simpa using this
  haveI : Inhabited (Cel fun x cs => EE w ok x cs ∧ rsound x.row = true) := ⟨dl[0]'(by omega)⟩
  have hH := holds_cels (fun x cs h => (hE x cs h).1) hh hd2
  have hO : SWO (ltOf fun (p q : Cel fun x cs => EE w ok x cs ∧ rsound x.row = true) => rlex (celX p).row (celX q).row) := (rlex_cmp.comap fun p : Cel fun x cs => EE w ok x cs ∧ rsound x.row = true => (celX p).row).swo
  have hgs := (Array.getElem?_eq_some_iff.1 hh).1
  have hcmp : CmpLays Tryz.prog 130 #[] (celEnc (E := fun x cs => EE w ok x cs ∧ rsound x.row = true)) 2 (fun p q => rlex (celX p).row (celX q).row) g 0 dl.toArray.size w := by
    intro m os dk _ p q
    have hsh : ∀ p : Cel (fun x cs => EE w ok x cs ∧ rsound x.row = true), ∃ A n d, celEnc p = [.slice A n d, .int .i64 (celX p).w] ∧ RdV w ok (.slice A n d) (celX p).row := fun p => by
      obtain ⟨⟨v, hc, _, hx⟩, _⟩ := p.2
      obtain ⟨A, d, rfl, _⟩ := hx.shape
      exact ⟨A, _, d, hc, hx⟩
    obtain ⟨A, n, c, h1, h3⟩ := hsh p
    obtain ⟨B, m', d, h2, h4⟩ := hsh q
    rw [h1, h2]
    have hrl : rcmp (celX p).row (celX q).row = rlex (celX p).row (celX q).row := rcmp_lex p.2.2 q.2.2
    have hst : Stays w (sortWorldK celEnc 2 w g 0 m dk os) ok AnyB := (Stays.grown (sortedK_grown dk) ok fun k t cells fr hk hh' ho => by
      injection hk with hk
      subst hk
      rw [hh] at hh'
      injection hh' with hh'
      injection hh' with _ h2' _
      exact hok _ (h2' ▸ ho)).trans (Stays.any _ _)
    exact (entries1_any A B n m' c d (celX p).w (celX q).w (celX p).row (celX q).row _ (h3.mv hst) (h4.mv hst)).mono fun _ _ ⟨he, hw⟩ => ⟨by rw [he, hrl], hw⟩
  have hss : dl.toArray.size ≤ 4294967296 := by rw [show dl.toArray.size = dl.length by simp]; omega
  have hp := AnyQ.pdqsortCmpFunc_all (P := Tryz.prog) (ρ := Tryz.pdqEntries_ren) Tryz.pdqEntries 2 (fun w => Tryz.isAgg66 w) (fun w => Tryz.sizeOf66 w) (celEnc (E := fun x cs => EE w ok x cs ∧ rsound x.row = true)) _ 130 #[] hO g 0 cap dl.toArray w enters_entries1 hcmp ⟨fun p => (hE _ _ p.2).1, fun p => (hE _ _ p.2).2, hH, hgs⟩ (dl.toArray.size + 1) 0 dl.toArray.size (Lib.bitLen dl.toArray.size) dl.toArray w (by omega) rfl (SWK.start hH) (Nat.zero_le _) (Nat.le_refl _) (by omega) (Nat.lt_of_le_of_lt (Lib.bitLen_le dl.toArray.size 62 (by omega) (by omega)) (by decide)) (Or.inl rfl)
  have hpd := pdq_sorts _ hO dl.toArray 0 dl.toArray.size (Lib.bitLen dl.toArray.size) true true (Nat.zero_le _) (Nat.le_refl _) (Or.inl rfl)
  generalize pdq _ dl.toArray 0 dl.toArray.size (Lib.bitLen dl.toArray.size) true true = d' at hp hpd
  have hsd : dl.toArray.size = xs.length := by simpa using hdl
  rw [hsd] at hp
  have hb := fun W => bitsLen_any (xs.length : Int) W (by omega) (by omega)
  have wr : IntKind.u64.wrap (xs.length : Int) = xs.length := by simp [IntKind.wrap, IntKind.bits, IntKind.signed]; omega
  have HF : As (PermIn 0 dl.toArray.size dl.toArray d' ∧ SortedIn (ltOf fun (p q : Cel fun x cs => EE w ok x cs ∧ rsound x.row = true) => rlex (celX p).row (celX q).row) 0 dl.toArray.size d') := ⟨hpd⟩
  have HH := As.mk hH
  have HHH := As.mk hh
  have HD1 := As.mk hd1
  have HEE := As.mk hE
  have HSD := As.mk hsd
  clear hpd hH hh hd1 hE hd2 hcmp hO h0 ho hr h1 hs ht hsd h hnil
  simp only [Int.toNat_natCast] at hb
  have hp' : Calls Tryz.prog 171 #[.slice (some ⟨g, 0, none⟩) xs.length cap, .int .i64 0, .int .i64 xs.length, .int .i64 (Lib.bitLen xs.length : Nat), .func (.func 130) #[] #[]] w fun e w' => e = .returned (.tuple #[]) ∧ SWK celEnc 2 w g 0 d' w' := hp
  clear hp
  generalize Lib.bitLen xs.length = bl at *
  go_enter Tryz.func129, Tryz.ntmps129
  go_wp2_with (first | (go_at_call 134; refine (hb _).mono ?_; rintro e w1 ⟨rfl, rfl⟩) | (go_at_call 171; refine hp'.mono ?_; rintro e w1 ⟨rfl, hw⟩))
  go_end0
  obtain ⟨n, os, rfl⟩ := hw
  refine ⟨rfl, sortedK_grown d', d'.toList.map celX, ?_, ?_, fun ok' hok' => ?_⟩
  · have := perm_cels (d := dl.toArray) (d' := d') HF.out.1
    rw [← HD1.out]; simpa using this
  · exact (sorted_cels (d := dl.toArray) (cf := fun x y => rlex x.row y.row) HF.out.1.1 HF.out.2).imp fun h => Int.not_lt.1 h
  · have hsz : d'.size = xs.length := HF.out.1.1.trans HSD.out
    have := sortedK_rd (n := n) (os := os) (cap := cap) HEE.out dl.toArray d' HHH.out HH.out HF.out.1.1 (by omega) (by omega) (hok' g hg)
    rw [hsz] at this
    exact RdL.move this (fun _ _ h => h.1) (Stays.mono fun _ _ h => h)
end Go.Proofs.YtflckpfpgpfjlaaGreatDoor
end
section
namespace Go.Proofs.YtflckpfpgpfjlaaGreatDoor
open Go.RowKit Go.Sort
def GI.ent (x : GI) : GE := ⟨x.row, x.size⟩
theorem info_entry : (Tryz.prog.info? 66).map (fun i => (i.zero, i.size, i.bytes)) = some (some (.agg #[.slice none 0 0, .int .i64 0]), 2, 32) := by kernel_rfl
theorem OwnL.notnil {α : Type} {sz : Nat} {E : α → List Value → Prop} {e : TypeId} {w : World} {base : Nat} {v : Value} {xs : List α} (h : OwnL sz E e w base v xs) : True := trivial
theorem EE.mv {w w' : World} {ok ok' : Blk} {x : GE} {cs : List Value} (h : EE w ok x cs) (hs : Stays w w' ok ok') : EE w' ok' x cs := let ⟨v, hc, hi, hr⟩ := h; ⟨v, hc, hi, hr.mv hs⟩
theorem OwnL.rowStays {α : Type} {sz : Nat} {E : α → List Value → Prop} {e : TypeId} {w w' : World} {base : Nat} {v : Value} {xs : List α} (h : OwnL sz E e w base v xs) (hg : w.grownBy w' v.ownBlock) {ok : Blk} (hok : ∀ k, ¬ ok k e) : Stays w w' ok ok :=
  Stays.grown hg ok fun g t cells fr hgb hh ho => by
    obtain ⟨c, hc⟩ := h.typed g hgb
    exact hok g (tag_eq hh hc ▸ ho)
/-- A multiset whose list and rows are new blocks from base on. -/
abbrev RdZ2 (w : World) (base : Nat) (v : Value) (z : List GE) : Prop := RdL 2 (EE w (Fresh base [96])) w (Fresh base [66]) v z
theorem RdZ2.any {w : World} {base : Nat} {v : Value} {z : List GE} (h : RdZ2 w base v z) : RdZ w AnyB v z := RdL.move h (fun _ _ e => e.mv (Stays.any _ _)) (Stays.any _ _)
theorem RdZ2.both {w : World} {base : Nat} {v : Value} {z : List GE} (h : RdZ2 w base v z) : RdZ w (Fresh base [66, 96]) v z :=
  RdL.move h (fun _ _ e => e.mv (Stays.mono fun k t h => ⟨h.1, by have := h.2; simp at this; simp [this]⟩)) (Stays.mono fun k t h => ⟨h.1, by have := h.2; simp at this; simp [this]⟩)
theorem RdZ2.low {w : World} {base base' : Nat} {v : Value} {z : List GE} (h : RdZ2 w base v z) (hb : base' ≤ base) : RdZ2 w base' v z :=
  RdL.move h (fun _ _ e => e.mv (Stays.mono fun k t h => ⟨Nat.le_trans hb h.1, h.2⟩)) (Stays.mono fun k t h => ⟨Nat.le_trans hb h.1, h.2⟩)
theorem RdZ2.ext {w w' : World} {base : Nat} {v : Value} {z : List GE} (h : RdZ2 w base v z) (hb : Below w.heap.size w w') : RdZ2 w' base v z :=
  RdL.move h (fun _ _ e => e.mv (Stays.below hb _)) (Stays.below hb _)
set_option maxHeartbeats 4000000 in
set_option maxRecDepth 100000 in
theorem entries_any (v : Value) (z : List GI) (w : World) (hz : RdT w AnyB v z) (hs : ∀ x ∈ z, rsound x.row = true) :
    Calls Tryz.prog 74 #[v] w fun e w' => ∃ v', e = .returned v' ∧ Below w.heap.size w w' ∧
      ∃ xs, xs.Perm (z.map GI.ent) ∧ (xs.Pairwise fun x y => ¬ rlex y.row x.row < 0) ∧ RdZ2 w' w.heap.size v' xs := by
  have mixed := mixed
  obtain ⟨A, c, rfl, hc⟩ := hz.shape
  have hl := hz.len
  have HZ := As.mk hz
  have HS := As.mk hs
  clear hz hs
  go_enter Tryz.func74, Tryz.ntmps74
  go_wp2_with fail
  go_loopg [3, 8] z.length (fun g s3 s8 wr => ∃ (k : Nat), k ≤ z.length ∧ z.length - k ≤ g ∧ s8 = .int .i64 k ∧ As (OwnL 2 (EE wr (Fresh w.heap.size [96])) 66 wr w.heap.size s3 ((z.take k).map GI.ent)) ∧ As (Below w.heap.size w wr) ∧ As (k = 0 → s3 = .slice none 0 0))
  case atStart => exact ⟨0, by omega, by omega, by go_num, ⟨by simpa using OwnL.nil _ _ _ _ _⟩, ⟨Below.refl _ _⟩, ⟨fun _ => rfl⟩⟩
  case round =>
    obtain ⟨k, hk, hg, rfl, HO, HB, HN⟩ := hrel
    by_cases hlt : k < z.length
    · have hltz : (k : Int) < (z.length : Int) := by omega
      obtain ⟨x, hx⟩ : ∃ x, z[k]? = some x := ⟨_, List.getElem?_eq_getElem hlt⟩
      obtain ⟨b, o, c', A1, d1, hv, hb, hxs, hrw, _, e0, e1, e2, e3⟩ := RdT.itm (HZ.out.ext HB.out) hx
      injection hv with hA _ hcc
      subst hA
      have HX := As.mk hx
      have HRW := As.mk hrw
      clear hx hrw hcc
      have hstep : (z.take (k + 1)).map GI.ent = (z.take k).map GI.ent ++ [x.ent] := by rw [List.take_add_one, HX.out]; simp
      have HST := As.mk hstep
      clear hstep
      have hzl : ((z.take k).map GI.ent).length = k := by rw [List.length_map, List.length_take]; omega
      have HZL := As.mk hzl
      generalize (z.take k).map GI.ent = zs at *
      have HW0 : As (Below w.heap.size w (wr.alloc (.cells #[.string x.key, .string x.enc, .slice A1 x.row.length d1, .int .i64 x.size] 122)).drew) := ⟨(HB.out.alloc HB.out.size _).drew⟩
      have HO0 : As (OwnL 2 (EE (wr.alloc (.cells #[.string x.key, .string x.enc, .slice A1 x.row.length d1, .int .i64 x.size] 122)).drew (Fresh w.heap.size [96])) 66 (wr.alloc (.cells #[.string x.key, .string x.enc, .slice A1 x.row.length d1, .int .i64 x.size] 122)).drew w.heap.size u3 zs) :=
        ⟨((HO.out.ext (Ext.drew (Ext.alloc (Ext.refl _) _))).imp fun _ _ h => EE.mv h (Stays.below (Ext.drew (Ext.alloc (Ext.refl _) _)).below _))⟩
      have HCL := As.mk (cloneRow_any (.slice A1 x.row.length d1) x.row (wr.alloc (.cells #[.string x.key, .string x.enc, .slice A1 x.row.length d1, .int .i64 x.size] 122)).drew (HRW.out.ext (Ext.drew (Ext.alloc (Ext.refl _) _)).below))
      have HC0 : As ((wr.alloc (.cells #[.string x.key, .string x.enc, .slice A1 x.row.length d1, .int .i64 x.size] 122)).heap[wr.heap.size]? = some (.cells #[.string x.key, .string x.enc, .slice A1 x.row.length d1, .int .i64 x.size] 122 (0, 0))) := ⟨heap_alloc_new _ _⟩
      have HXI := As.mk hxs
      obtain ⟨xk, xe, xr, xs⟩ := x
      simp only at *
      go_wp2_with fail
      clear e0 e1 e2 e3 hxs hb
      generalize hcb : wr.heap.size = cb at *
      generalize hW0 : wr.alloc (Obj.cells #[Value.string xk, Value.string xe, Value.slice A1 xr.length d1, Value.int IntKind.i64 xs] 122) = W0 at *
      obtain ⟨f0, f1, f2, f3, _⟩ := cells4 HC0.out
      have hcl0 : cb < W0.heap.size := (Array.getElem?_eq_some_iff.1 HC0.out).1
      have HLZ : As (zs.length < 4294967296) := ⟨by have := HZL.out; omega⟩
      clear hcb hW0
      go_region_law (first | (refine OwnL.append_step (W := w2) w.heap.size rfl (.tmp 12) (.tmp 19) 35 66 _ 2 32 rfl Tryz.underlying35 info_entry rfl (by decide) (by decide) u3 zs ⟨xr, xs⟩ [.slice A2 xr.length d2, .int .i64 xs] rfl rfl (E := EE w2 (Fresh w.heap.size [96])) ⟨_, rfl, HXI.out, HU2.out⟩ rfl (by simp [Value.oneCell']) HO2.out HB2.out hbz HLZ.out rfl ?_; intro v1 w3 hown hb' hg'; have HO3 := As.mk (hown.imp fun _ _ h => EE.mv h (HO2.out.rowStays hg' (ok := Fresh w.heap.size [96]) (fun k h => by have := h.2; simp at this))); have HB3 := As.mk hb'; clear hown hb' hg') | (go_simp; go_at_call 60; refine HCL.out.mono ?_; rintro e w2 ⟨u2, rfl, hu2, hB⟩; obtain ⟨A2, d2, rfl, _⟩ := hu2.shape; have hC2 := (hB.block cb hcl0).trans HC0.out; obtain ⟨p0, p1, p2, p3, _⟩ := cells4 hC2; have HU2 := As.mk (hu2.mv (Stays.mono (ok' := Fresh w.heap.size [96]) fun k t h => ⟨Nat.le_trans HW0.out.size h.1, h.2⟩)); have HO2 := As.mk ((HO0.out.below hB).imp fun _ _ h => EE.mv h (Stays.below hB _)); have HB2 := As.mk (HW0.out.trans (hB.mono HW0.out.size)); have hbz := HB2.out.size; clear hu2 hB hC2))
      all_goals (go_wp2; go_roundg (z.length - (k + 1)); (case measure => omega); (case rel => exact ⟨k + 1, by omega, by omega, by go_num, ⟨by rw [HST.out]; exact HO3.out⟩, HB3, ⟨fun h => by omega⟩⟩))
    · have hltz : ¬ (k : Int) < (z.length : Int) := by omega
      obtain rfl : k = z.length := by omega
      rw [List.take_length] at HO
      have hsn : ∀ x ∈ z.map GI.ent, rsound x.row = true := fun x hx => by
        obtain ⟨y, hy, rfl⟩ := List.mem_map.1 hx
        exact HS.out y hy
      have HC := As.mk (sortEntries_any w.heap.size u3 (z.map GI.ent) (Fresh w.heap.size [96]) wr HO.out hsn (fun h => HN.out (by have := congrArg List.length h; simpa using this)) (fun k h => by have := h.2; simp at this))
      clear hsn
      go_wp2_with (go_at_call 129; refine HC.out.mono ?_; rintro e w2 ⟨rfl, hg2, xs, hp, hso, hrd⟩; have HG := As.mk hg2; have HP := As.mk hp; have HSO := As.mk hso; have HRD := As.mk hrd; clear hg2 hp hso hrd)
      go_ret
      refine ⟨_, rfl, HB.out.grown HG.out HB.out.size (fun k hk => (HO.out.lt k hk).1), xs, HP.out, HSO.out, ?_⟩
      have h1 := HRD.out (Fresh w.heap.size [66]) (fun k hk => ⟨hk, by simp⟩)
      refine RdL.move h1 (fun x cs h => EE.mv h ?_) (Stays.mono fun _ _ h => h)
      exact (HO.out.rowStays HG.out (ok := Fresh w.heap.size [96]) (fun k h => by have := h.2; simp at this))
end Go.Proofs.YtflckpfpgpfjlaaGreatDoor
end
section
namespace Go.Proofs.YtflckpfpgpfjlaaGreatDoor
open Go.RowKit Go.Sort
/-- All batches as one. -/
def allL (bs : List (List GI)) : List GI := bs.foldl mergeL []
theorem allL_step (bs : List (List GI)) (j : Nat) (z : List GI) (hz : bs[j]? = some z) : allL (bs.take (j + 1)) = mergeL (allL (bs.take j)) z := by
  unfold allL
  rw [List.take_add_one, hz, Option.toList_some, List.foldl_append]
  rfl
theorem allL_len (bs : List (List GI)) : (allL bs).length ≤ heldL bs := by
  have key : ∀ (bs : List (List GI)) (a : List GI), (bs.foldl mergeL a).length ≤ a.length + heldL bs := by
    intro bs
    induction bs with
    | nil => intro a; simp [heldL]
    | cons z bs ih =>
      intro a
      have h1 := ih (mergeL a z)
      have h2 := mergeL_length a z
      simp only [List.foldl_cons, heldL]
      omega
  have := key bs []
  simpa [allL] using this
theorem mergeL_row {P : List GV → Prop} (x y : List GI) (hx : ∀ u ∈ x, P u.row) (hy : ∀ u ∈ y, P u.row) : ∀ u ∈ mergeL x y, P u.row := by
  fun_induction mergeL x y with
  | case1 ys => exact hy
  | case2 xs h => exact hx
  | case3 x xs y ys h ih => intro u hu; rcases List.mem_cons.1 hu with rfl | hu
                            · exact hx _ (by simp)
                            · exact ih (fun v hv => hx v (by simp [hv])) hy u hu
  | case4 x xs y ys h h' ih => intro u hu; rcases List.mem_cons.1 hu with rfl | hu
                               · exact hy _ (by simp)
                               · exact ih hx (fun v hv => hy v (by simp [hv])) u hu
  | case5 x xs y ys h h' h2 ih => intro u hu; rcases List.mem_cons.1 hu with rfl | hu
                                  · exact hx x (by simp)
                                  · exact ih (fun v hv => hx v (by simp [hv])) (fun v hv => hy v (by simp [hv])) u hu
  | case6 x xs y ys h h' h2 ih => exact ih (fun v hv => hx v (by simp [hv])) (fun v hv => hy v (by simp [hv]))
theorem allL_row {P : List GV → Prop} (bs : List (List GI)) (h : ∀ z ∈ bs, ∀ u ∈ z, P u.row) : ∀ u ∈ allL bs, P u.row := by
  have key : ∀ (bs : List (List GI)) (a : List GI), (∀ u ∈ a, P u.row) → (∀ z ∈ bs, ∀ u ∈ z, P u.row) → ∀ u ∈ bs.foldl mergeL a, P u.row := by
    intro bs
    induction bs with
    | nil => intro a ha _; exact ha
    | cons z bs ih => intro a ha hb; exact ih _ (mergeL_row a z ha (hb z (by simp))) fun z' hz' => hb z' (by simp [hz'])
  exact key bs [] (by simp) h
/-- What All and Get answer: these items' entries, in the order of rows. -/
def ZPost (w : World) (z : List GI) (e : Ending) (w' : World) : Prop := ∃ v', e = .returned v' ∧ Below w.heap.size w w' ∧
  ∃ xs, xs.Perm (z.map GI.ent) ∧ (xs.Pairwise fun x y => ¬ rlex y.row x.row < 0) ∧ RdZ2 w' w.heap.size v' xs
end Go.Proofs.YtflckpfpgpfjlaaGreatDoor
end
section
namespace Go.Proofs.YtflckpfpgpfjlaaGreatDoor
open Go.RowKit Go.Sort
/-- A batch's items with a key. -/
def keyed (k : ByteArray) (z : List GI) : List GI := z.filter fun x => decide (x.key = k)
/-- All batches' items with a key. -/
def getL (bs : List (List GI)) (k : ByteArray) : List GI := allL (bs.map (keyed k))
theorem keyed_held (k : ByteArray) (bs : List (List GI)) : heldL (bs.map (keyed k)) ≤ heldL bs := by
  induction bs with
  | nil => simp [heldL]
  | cons z bs ih =>
    simp only [List.map_cons, heldL]
    have := List.length_filter_le (fun x : GI => decide (x.key = k)) z
    unfold keyed at ih ⊢
    omega
theorem keyed_part {z : List GI} {k : ByteArray} {i t : Nat} {fb : Bool} (hz : Rise z) (hf : Found (fun x => scmp x.key k) z i fb) (hit : i ≤ t) (ht : t ≤ z.length) (hm : ∀ (s : Nat) (x : GI), i ≤ s → s < t → z[s]? = some x → x.key = k)
    (hn : ∀ x, z[t]? = some x → x.key ≠ k) : (z.drop i).take (t - i) = keyed k z := by
  have e1 : z = z.take i ++ ((z.drop i).take (t - i) ++ z.drop t) := by
    have h1 := List.take_append_drop i z
    have h2 := List.take_append_drop (t - i) (z.drop i)
    rw [List.drop_drop, show i + (t - i) = t by omega] at h2
    rw [h2, h1]
  have a1 : (z.take i).filter (fun x => decide (x.key = k)) = [] := by
    rw [List.filter_eq_nil_iff]
    intro x hx
    obtain ⟨j, hj⟩ := List.mem_iff_getElem?.1 hx
    have hji : j < i := by have := (List.getElem?_eq_some_iff.1 hj).1; rw [List.length_take] at this; omega
    rw [List.getElem?_take_of_lt hji] at hj
    have := hf.below j x hji hj
    simp only [decide_eq_true_eq]
    rintro rfl
    have := scmp_cmp.refl x.key
    omega
  have a2 : ((z.drop i).take (t - i)).filter (fun x => decide (x.key = k)) = (z.drop i).take (t - i) := by
    rw [List.filter_eq_self]
    intro x hx
    obtain ⟨j, hj⟩ := List.mem_iff_getElem?.1 hx
    have hjl : j < t - i := by have := (List.getElem?_eq_some_iff.1 hj).1; rw [List.length_take] at this; omega
    rw [List.getElem?_take_of_lt hjl, List.getElem?_drop] at hj
    simpa using hm (i + j) x (by omega) (by omega) hj
  have a3 : (z.drop t).filter (fun x => decide (x.key = k)) = [] := by
    rw [List.filter_eq_nil_iff]
    intro x hx
    obtain ⟨j, hj⟩ := List.mem_iff_getElem?.1 hx
    rw [List.getElem?_drop] at hj
    simp only [decide_eq_true_eq]
    intro hk
    have hlt : t < z.length := by have := (List.getElem?_eq_some_iff.1 hj).1; omega
    have ht0 := List.getElem?_eq_getElem hlt
    have h1 := hn _ ht0
    have h2 := hf.above t _ hit ht0
    have h3 : scmp z[t].key k ≠ 0 := fun h => h1 (scmp_eq h)
    rcases Nat.eq_zero_or_pos j with h0 | h0
    · subst h0
      rw [Nat.add_zero, ht0] at hj
      exact h1 (by rw [← hk]; congr 1; exact Option.some.inj hj)
    · have h4 := hz.get (show t < t + j by omega) ht0 hj
      unfold GI.cmp kcmp orv at h4
      rw [hk] at h4
      split at h4 <;> omega
  unfold keyed
  conv => rhs; rw [e1, List.filter_append, List.filter_append, a1, a2, a3]
  simp
theorem get_nil (v : Value) (r : List GV) (w : World) (hw : GW w) (hr : RdV w AnyB v r) : Calls Tryz.prog 34 #[.pointer none, v] w fun e w' => e = .returned (.slice none 0 0) ∧ Below w.heap.size w w' := by
  have h1 := encode_any r v w hr hw
  go_enter Tryz.func34, Tryz.ntmps34
  go_wp2_with (go_at_call 69; refine h1.mono ?_; rintro e w1 ⟨rfl, hB⟩)
  go_ret
  exact ⟨rfl, hB⟩
theorem get_bad (b : Nat) (v : Value) (r : List GV) (w : World) (hw : GW w) (hr : RdV w AnyB v r) (hs : rsound r = false) : Calls Tryz.prog 34 #[.pointer (some ⟨b, 0, none⟩), v] w fun e w' => e = .returned (.slice none 0 0) ∧ Below w.heap.size w w' := by
  have h1 := encode_any r v w hr hw
  have he : encE r = 1 := by unfold encE; rw [hs]; rfl
  rw [he] at h1
  go_enter Tryz.func34, Tryz.ntmps34
  go_wp2_with (go_at_call 69; refine h1.mono ?_; rintro e w1 ⟨rfl, hB⟩)
  go_ret
  exact ⟨rfl, hB⟩
set_option maxHeartbeats 2000000 in
set_option maxRecDepth 100000 in
theorem get_any (base : Nat → Prop) (b : Nat) (S : GS) (v : Value) (r : List GV) (w : World) (hw : GW w) (hr : RdV w AnyB v r) (hrs : rsound r = true) (h : SpAt base b w S) (hR : ∀ z ∈ S.bs, Rise z) (hH : heldL S.bs ≤ 4294967296) (hs : ∀ z ∈ S.bs, ∀ u ∈ z, rsound u.row = true) :
    Calls Tryz.prog 34 #[.pointer (some ⟨b, 0, none⟩), v] w (ZPost w (getL S.bs (encB r))) := by
  have h1 := encode_any r v w hr hw
  have he : encE r = 0 := by unfold encE; rw [hrs]; rfl
  rw [he] at h1
  obtain ⟨u, bv, hb, _, hbs⟩ := h.bat
  obtain ⟨A, c, rfl, hc⟩ := hbs.shape
  have hl := hbs.len
  have hkh := keyed_held (encB r) S.bs
  obtain ⟨_, c1, _⟩ := spine_cells hb
  have HB := As.mk hbs
  have HR := As.mk hR
  have HS := As.mk (allL_row (P := fun r => rsound r = true) (S.bs.map (keyed (encB r))) fun z hz u hu => by
    obtain ⟨y, hy, rfl⟩ := List.mem_map.1 hz
    exact hs y hy u (List.mem_filter.1 hu).1)
  obtain ⟨_, bs, _⟩ := S
  unfold ZPost getL
  generalize encB r = k at *
  simp only at *
  obtain ⟨i0, hi, hzz⟩ := Option.map_eq_some_iff.1 info_item
  simp only [Prod.mk.injEq] at hzz
  obtain ⟨_, hz1, _⟩ := hzz
  have HI := As.mk hi
  have HZ1 := As.mk hz1
  clear h hb hbs hs hR hw hr he hrs hi hz1
  go_enter Tryz.func34, Tryz.ntmps34
  go_wp2_with (go_at_call 69; refine h1.mono ?_; rintro e w1 ⟨rfl, hB⟩; have HB1 := As.mk hB; have d1 := (hB.cell (World.block_lt_of_cell? w _ c1)).trans c1; clear hB)
  go_loopg [7, 29] bs.length (fun g s7 s29 wr => ∃ (j : Nat), j ≤ bs.length ∧ bs.length - j ≤ g ∧ s29 = .int .i64 j ∧ As (RdT wr AnyB s7 (allL ((bs.map (keyed k)).take j))) ∧ As (Below w.heap.size w wr))
  case atStart => exact ⟨0, by omega, by omega, by go_num, ⟨RdL.nil _ _ _ _⟩, HB1⟩
  case round =>
    obtain ⟨j, hj, hg, rfl, HRD, HW⟩ := hrel
    by_cases hlt : j < bs.length
    · have hltz : (j : Int) < (bs.length : Int) := by omega
      obtain ⟨z, hz⟩ : ∃ z, bs[j]? = some z := ⟨_, List.getElem?_eq_getElem hlt⟩
      obtain ⟨b0, o, c', hv, hb0, cs, _, ⟨vz, rfl, hvz⟩, _, hcc⟩ := HB.out.at hz
      have e0 := (HW.out.cell (World.block_lt_of_cell? w _ (hcc 0 vz rfl))).trans (hcc 0 vz rfl)
      simp only [Nat.mul_one, Nat.add_zero] at e0
      injection hv with hA _ hccc
      subst hA
      have hvz2 := hvz.ext HW.out
      obtain ⟨Az, cz, rfl, _⟩ := hvz.shape
      have hRz := HR.out z (List.mem_of_getElem? hz)
      have HRZ := As.mk hRz
      have hzl := hvz.len
      have hzk : (bs.map (keyed k))[j]? = some (keyed k z) := by rw [List.getElem?_map, hz]; rfl
      obtain ⟨h1', h2⟩ := heldL_split _ j _ hzk
      have h3 := allL_len ((bs.map (keyed k)).take j)
      have HLN : As ((allL ((bs.map (keyed k)).take j)).length + (keyed k z).length ≤ 4294967296) := ⟨by omega⟩
      have HST := As.mk (allL_step _ j _ hzk)
      have HBS := As.mk (bsKey_any _ z k wr hvz2 (hRz.monoKey k))
      have HVZ := As.mk hvz2
      clear hvz hvz2 hz hcc hccc h1' h2 h3 hRz hzk
      go_wp2_with (go_at_call 70; refine HBS.out.mono ?_; rintro e w2 ⟨⟨i, fb, rfl, hf⟩, hE2⟩; have HF := As.mk hf; have HE2 := As.mk hE2; have hil := hf.le; clear hf hE2)
      go_loopg [12] z.length (fun g s12 wr' => ∃ (t : Nat), i ≤ t ∧ t ≤ z.length ∧ z.length - t ≤ g ∧ s12 = .int .i64 t ∧ As (∀ (s : Nat) (x : GI), i ≤ s → s < t → z[s]? = some x → x.key = k) ∧ w2 = wr')
      case atStart => exact ⟨i, by omega, by omega, by omega, rfl, ⟨fun s x h1 h2 => absurd h1 (by omega)⟩, rfl⟩
      case round =>
        obtain ⟨t, hit, htl, hg2, rfl, HM, rfl⟩ := hrel
        by_cases hlt2 : t < z.length
        · have hltz2 : (t : Int) < (z.length : Int) := by omega
          obtain ⟨x, hx⟩ : ∃ x, z[t]? = some x := ⟨_, List.getElem?_eq_getElem hlt2⟩
          obtain ⟨b1, o1, c1', A1, d1', hv, hb1, _, _, _, g0, _, _, _⟩ := RdT.itm (HVZ.out.ext HE2.out.below) hx
          injection hv with hA _ hccc
          subst hA
          have HX := As.mk hx
          clear hx hccc
          by_cases hkey : x.key = k
          · have HM2 : As (∀ (s : Nat) (y : GI), i ≤ s → s < t + 1 → z[s]? = some y → y.key = k) := ⟨fun s y h1 h2 h3 => by
              rcases Nat.lt_or_eq_of_le (Nat.le_of_lt_succ h2) with h4 | rfl
              · exact HM.out s y h1 h4 h3
              · rw [HX.out] at h3
                rw [← Option.some.inj h3]; exact hkey⟩
            obtain ⟨xk, xe, xr, xs⟩ := x
            simp only at *
            subst hkey
            go_wp2_with fail
            go_roundg (z.length - (t + 1))
            case measure => omega
            case rel => exact ⟨t + 1, by omega, by omega, by omega, by go_num, HM2, rfl⟩
          · have HNE : ∀ y, z[t]? = some y → y.key ≠ k := fun y hy => by
              rw [HX.out] at hy
              rw [← Option.some.inj hy]; exact hkey
            have hkl : (x.key.toList == k.toList) = false := beq_eq_false_iff_ne.2 fun h => hkey (by rw [ByteArray.toList_eq, ByteArray.toList_eq] at h; cases hx0 : x.key; cases hk0 : k; rw [hx0, hk0] at h; congr 1; exact Array.toList_inj.1 h)
            clear hkey
            obtain ⟨Ap, hsl, hrp⟩ := RdL.part Tryz.underlying133 HI.out HZ1.out (HVZ.out.ext HE2.out.below) i t hit htl .i64 .i64
            rw [keyed_part HRZ.out HF.out hit htl HM.out HNE] at hrp
            have HMM := As.mk (merged_any u7 _ _ _ AnyB w2 (HRD.out.ext HE2.out.below) hrp HLN.out)
            clear hrp
            go_wp2_with (go_at_call 73; refine HMM.out.mono ?_; rintro e w3 ⟨v3, rfl, hown, hB⟩; have HR3 := As.mk (hown.rd (ok := AnyB) fun _ _ => trivial); have HB3 := As.mk ((HW.out.trans (HE2.out.below.mono HW.out.size)).trans (hB.mono (Nat.le_trans HW.out.size HE2.out.below.size))); clear hown hB)
            go_roundg (bs.length - (j + 1))
            case measure => omega
            case rel => exact ⟨j + 1, by omega, by omega, by go_num, ⟨by rw [HST.out]; exact HR3.out⟩, HB3⟩
        · have hltz2 : ¬ (t : Int) < (z.length : Int) := by omega
          have HNE : ∀ y, z[t]? = some y → y.key ≠ k := fun y hy => by rw [List.getElem?_eq_none (by omega)] at hy; cases hy
          obtain ⟨Ap, hsl, hrp⟩ := RdL.part Tryz.underlying133 HI.out HZ1.out (HVZ.out.ext HE2.out.below) i t hit htl .i64 .i64
          rw [keyed_part HRZ.out HF.out hit htl HM.out HNE] at hrp
          have HMM := As.mk (merged_any u7 _ _ _ AnyB w2 (HRD.out.ext HE2.out.below) hrp HLN.out)
          clear hrp
          go_wp2_with (go_at_call 73; refine HMM.out.mono ?_; rintro e w3 ⟨v3, rfl, hown, hB⟩; have HR3 := As.mk (hown.rd (ok := AnyB) fun _ _ => trivial); have HB3 := As.mk ((HW.out.trans (HE2.out.below.mono HW.out.size)).trans (hB.mono (Nat.le_trans HW.out.size HE2.out.below.size))); clear hown hB)
          go_roundg (bs.length - (j + 1))
          case measure => omega
          case rel => exact ⟨j + 1, by omega, by omega, by go_num, ⟨by rw [HST.out]; exact HR3.out⟩, HB3⟩
    · have hltz : ¬ (j : Int) < (bs.length : Int) := by omega
      obtain rfl : j = bs.length := by omega
      rw [List.take_of_length_le (by simp)] at HRD
      have HE := As.mk (entries_any u7 _ wr HRD.out HS.out)
      go_wp2_with (go_at_call 74; refine HE.out.mono ?_; rintro e w2 ⟨v2, rfl, hB, xs, h1, h2, h3⟩; have HF := As.mk (And.intro hB (And.intro h1 (And.intro h2 h3))); clear hB h1 h2 h3)
      go_ret
      obtain ⟨hB, h1, h2, h3⟩ := HF.out
      exact ⟨_, rfl, HW.out.trans (hB.mono HW.out.size), xs, h1, h2, h3.low HW.out.size⟩
end Go.Proofs.YtflckpfpgpfjlaaGreatDoor
end
