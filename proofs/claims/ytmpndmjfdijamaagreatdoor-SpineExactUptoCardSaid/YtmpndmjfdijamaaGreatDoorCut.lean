/- Cuts of slices that are read: xs[i:], xs[:j], xs[i:j]. -/
import Derived.Test.YtmpndmjfdijamaaGreatDoorOwn
set_option linter.unusedVariables false
set_option linter.unusedSimpArgs false
namespace Go.Proofs.YtmpndmjfdijamaaGreatDoor
open Go.RowKit Go.Sort
section
variable {P : Program} {α : Type} {sz : Nat} {E : α → List Value → Prop} {w : World} {ok : Blk} {A : Option Addr} {n c : Nat} {xs : List α} {t e : TypeId} {i : TypeInfo}
theorem add_lit (b o k : Nat) : (⟨b, o, none⟩ : Addr).add k = ⟨b, o + k, none⟩ := by
  unfold Addr.add
  split
  · subst_vars; rfl
  · rfl
theorem RdL.cutAt (h : RdL sz E w ok (.slice A n c) xs) (l r : Nat) (hl : l ≤ r) (hr : r ≤ xs.length) : RdL sz E w ok (.slice (if c = l then A else A.map (·.add (l * sz))) (r - l) (c - l)) ((xs.drop l).take (r - l)) := by
  obtain ⟨A', c', hv, hc, hlen, h⟩ := h
  injection hv with h1 h2 h3
  subst h1 h2 h3
  have hll : ((xs.drop l).take (r - l)).length = r - l := by rw [List.length_take, List.length_drop]; omega
  refine ⟨_, _, by rw [hll], by rw [hll]; omega, by rw [hll]; omega, fun hne => ?_⟩
  have hlt : l < r := by
    rcases Nat.lt_or_ge l r with h' | h'
    · exact h'
    · exact absurd (List.eq_nil_of_length_eq_zero (by rw [hll]; omega)) hne
  obtain ⟨b, o, cells, t, fr, rfl, hb, hh, hx⟩ := h (by rintro rfl; simp at hr; omega)
  rw [if_neg (by omega)]
  refine ⟨b, o + l * sz, cells, t, fr, by simp [add_lit], hb, hh, fun j x hj => ?_⟩
  rw [List.getElem?_take] at hj
  split at hj
  · rw [List.getElem?_drop] at hj
    obtain ⟨cs, e1, e2, e3, e4⟩ := hx _ x hj
    refine ⟨cs, e1, e2, e3, fun i u hu => ?_⟩
    rw [show o + l * sz + j * sz + i = o + (l + j) * sz + i by rw [Nat.add_mul]; omega]
    exact e4 i u hu
  · cases hj
/-- xs[l:] -/
theorem RdL.from (ht : P.underlying t = some (.slice e)) (hi : P.info? e = some i) (hsz : i.size = sz) (h : RdL sz E w ok (.slice A n c) xs) (l : Nat) (hl : l ≤ xs.length) (k : IntKind) :
    ∃ A' : Option Addr, (∀ W : World, (Instr.slice t (.slice A n c) (some (.int k (l : Int))) none none).run P W = .ok (.slice A' (n - l) (c - l)) W) ∧ RdL sz E w ok (.slice A' (n - l) (c - l)) (xs.drop l) := by
  have hn : n = xs.length := by obtain ⟨A', c', hv, _⟩ := h.shape; injection hv
  have h2 := h.cutAt l n (by omega) (by omega)
  rw [List.take_of_length_le (by rw [List.length_drop]; omega)] at h2
  refine ⟨_, fun W => ?_, h2⟩
  have hel : P.elem t = e := by simp [Program.elem, ht]
  have hu : P.underlying t = some (.slice (P.elem t)) := by rw [hel]; exact ht
  rw [run_slice_l W t A n c hu k (l : Int) (Int.natCast_nonneg _) (by omega), hel]
  simp [Go.sizeOf, typeInfo, hi, hsz, sliced, Result.andThen]
/-- xs[:r] -/
theorem RdL.upto (ht : P.underlying t = some (.slice e)) (hi : P.info? e = some i) (hsz : i.size = sz) (h : RdL sz E w ok (.slice A n c) xs) (r : Nat) (hr : r ≤ xs.length) (k : IntKind) :
    (∀ W : World, (Instr.slice t (.slice A n c) none (some (.int k (r : Int))) none).run P W = .ok (.slice A r c) W) ∧ RdL sz E w ok (.slice A r c) (xs.take r) := by
  have hn : n = xs.length ∧ n ≤ c := by obtain ⟨A', c', hv, hc⟩ := h.shape; injection hv; subst_vars; exact ⟨rfl, hc⟩
  have h2 := h.cutAt 0 r (by omega) hr
  have hA : (if c = 0 then A else A.map (·.add (0 * sz))) = A := by split <;> simp [Addr.add]
  rw [hA] at h2
  refine ⟨fun W => ?_, by simpa using h2⟩
  have hel : P.elem t = e := by simp [Program.elem, ht]
  have hu : P.underlying t = some (.slice (P.elem t)) := by rw [hel]; exact ht
  rw [run_slice_h W t A n c hu k (r : Int) (Int.natCast_nonneg _) (by omega), hel]
  rw [Nat.zero_mul] at hA
  simp [Go.sizeOf, typeInfo, hi, hsz, sliced, Result.andThen, hA]
/-- xs[l:r] -/
theorem RdL.part (ht : P.underlying t = some (.slice e)) (hi : P.info? e = some i) (hsz : i.size = sz) (h : RdL sz E w ok (.slice A n c) xs) (l r : Nat) (hl : l ≤ r) (hr : r ≤ xs.length) (k k' : IntKind) :
    ∃ A' : Option Addr, (∀ W : World, (Instr.slice t (.slice A n c) (some (.int k (l : Int))) (some (.int k' (r : Int))) none).run P W = .ok (.slice A' (r - l) (c - l)) W) ∧ RdL sz E w ok (.slice A' (r - l) (c - l)) ((xs.drop l).take (r - l)) := by
  have hn : n = xs.length ∧ n ≤ c := by obtain ⟨A', c', hv, hc⟩ := h.shape; injection hv; subst_vars; exact ⟨rfl, hc⟩
  have h2 := h.cutAt l r hl hr
  refine ⟨_, fun W => ?_, h2⟩
  have hel : P.elem t = e := by simp [Program.elem, ht]
  have hu : P.underlying t = some (.slice (P.elem t)) := by rw [hel]; exact ht
  rw [run_slice_lh W t A n c hu k k' (l : Int) (r : Int) (Int.natCast_nonneg _) (by omega) (by omega), hel]
  simp [Go.sizeOf, typeInfo, hi, hsz, sliced, Result.andThen]
/-- A call's own slice, cut at its end. -/
theorem OwnL.upto {base : Nat} (h : OwnL sz E e w base (.slice A n c) xs) (ht : P.underlying t = some (.slice e)) (hi : P.info? e = some i) (hsz : i.size = sz) (r : Nat) (hr : r ≤ xs.length) (k : IntKind) :
    (∀ W : World, (Instr.slice t (.slice A n c) none (some (.int k (r : Int))) none).run P W = .ok (.slice A r c) W) ∧ OwnL sz E e w base (.slice A r c) (xs.take r) := by
  refine ⟨((h.rd (ok := AnyB) fun _ _ => trivial).upto ht hi hsz r hr k).1, ?_⟩
  obtain ⟨cs, ho, hrep, h1, hl⟩ := h
  have hlen : (xs.take r).length = r := by rw [List.length_take]; omega
  have hrs : r * sz ≤ cs.length := by rw [hrep.1]; exact Nat.mul_le_mul_right _ hr
  refine ⟨cs.take (r * sz), ?_, ⟨?_, fun j x hj => ?_⟩, fun u hu => h1 u (List.mem_of_mem_take hu), by rw [hlen]; omega⟩
  · rw [hlen]
    refine ⟨by rw [List.length_take]; omega, ?_⟩
    rcases ho.2 with ⟨hv, hn⟩ | ⟨g, cap, cur, hv, hb, hh, hc, hm, hs, htk⟩
    · injection hv with h1 h2 h3
      subst h1 h2 h3
      have : r = 0 := by omega
      subst this
      exact .inl ⟨rfl, rfl⟩
    · injection hv with h1 h2 h3
      subst h1 h2 h3
      exact .inr ⟨g, c, cur, rfl, hb, hh, by omega, hm, hs, by rw [← htk, List.take_take, Nat.min_eq_left (Nat.mul_le_mul_right _ hr)]⟩
  · rw [List.length_take, hlen]; omega
  · rw [List.getElem?_take] at hj
    split at hj
    · rename_i hjr
      have := hrep.2 j x hj
      have hb : j * sz + sz ≤ r * sz := by rw [← Nat.succ_mul]; exact Nat.mul_le_mul_right _ hjr
      rw [List.drop_take, List.take_take, Nat.min_eq_left (by omega)]
      exact this
    · cases hj
end
end Go.Proofs.YtmpndmjfdijamaaGreatDoor
