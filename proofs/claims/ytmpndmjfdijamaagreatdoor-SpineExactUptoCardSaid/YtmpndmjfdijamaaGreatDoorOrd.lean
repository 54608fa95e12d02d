/- The order of byte strings and of items: plain laws. -/
import Derived.Test.YtmpndmjfdijamaaGreatDoorItem
set_option linter.unusedVariables false
set_option linter.unusedSimpArgs false
namespace Go.Proofs.YtmpndmjfdijamaaGreatDoor
open Go.RowKit Go.Sort
/-- A comparison that is a total order: what sorting and searching need. -/
structure Cmp {α : Type} (c : α → α → Int) : Prop where
  refl : ∀ a, c a a = 0
  flip : ∀ a b, c a b < 0 ↔ 0 < c b a
  trans : ∀ a b d, c a b ≤ 0 → c b d ≤ 0 → c a d ≤ 0
theorem Cmp.eqv {α : Type} {c : α → α → Int} (h : Cmp c) (a b : α) : c a b = 0 ↔ c b a = 0 := by
  have h1 := h.flip a b
  have h2 := h.flip b a
  omega
theorem Cmp.lt_of_lt_of_le {α : Type} {c : α → α → Int} (h : Cmp c) {a b d : α} (h1 : c a b < 0) (h2 : c b d ≤ 0) : c a d < 0 := by
  have h3 := h.trans a b d (by omega) h2
  rcases Int.lt_or_eq_of_le h3 with h4 | h4
  · exact h4
  · have h5 : c d a ≤ 0 := by have := (h.eqv a d).1 h4; omega
    have h6 := h.trans b d a h2 h5
    have := (h.flip a b).1 h1
    omega
theorem Cmp.lt_of_le_of_lt {α : Type} {c : α → α → Int} (h : Cmp c) {a b d : α} (h1 : c a b ≤ 0) (h2 : c b d < 0) : c a d < 0 := by
  have h3 := h.trans a b d h1 (by omega)
  rcases Int.lt_or_eq_of_le h3 with h4 | h4
  · exact h4
  · have h5 : c d a ≤ 0 := by have := (h.eqv a d).1 h4; omega
    have h6 := h.trans d a b h5 h1
    have := (h.flip b d).1 h2
    omega
theorem Cmp.lt_trans {α : Type} {c : α → α → Int} (h : Cmp c) {a b d : α} (h1 : c a b < 0) (h2 : c b d < 0) : c a d < 0 := h.lt_of_lt_of_le h1 (by omega)
/-- First by one, then by another. -/
theorem Cmp.orv {α : Type} {c d : α → α → Int} (hc : Cmp c) (hd : Cmp d) : Cmp (fun a b => orv (c a b) (d a b)) where
  refl a := by simp [Go.Proofs.YtmpndmjfdijamaaGreatDoor.orv, hc.refl, hd.refl]
  flip a b := by
    have h1 := hc.flip a b; have h2 := hc.flip b a; have h3 := hd.flip a b
    simp only [Go.Proofs.YtmpndmjfdijamaaGreatDoor.orv]
    split <;> split <;> omega
  trans a b e h1 h2 := by
    simp only [Go.Proofs.YtmpndmjfdijamaaGreatDoor.orv] at *
    have t := hc.trans a b e
    by_cases k1 : c a b = 0
    · by_cases k2 : c b e = 0
      · have k3 : c a e = 0 := by
          have u1 := hc.trans a b e (by omega) (by omega)
          have v1 := (hc.eqv a b).1 k1; have v2 := (hc.eqv b e).1 k2
          have u2 := hc.trans e b a (by omega) (by omega)
          have := hc.flip a e; have := hc.flip e a
          omega
        rw [if_neg (by omega)] at h1 h2 ⊢
        exact hd.trans a b e h1 h2
      · rw [if_pos k2] at h2
        have := hc.lt_of_le_of_lt (a := a) (b := b) (d := e) (by omega) (by omega)
        rw [if_pos (by omega)]; omega
    · rw [if_pos k1] at h1
      have h2' : c b e ≤ 0 := by split at h2 <;> omega
      have := hc.lt_of_lt_of_le (a := a) (b := b) (d := e) (by omega) h2'
      rw [if_pos (by omega)]; omega
theorem Cmp.comap {α β : Type} {c : α → α → Int} (h : Cmp c) (f : β → α) : Cmp (fun a b => c (f a) (f b)) where
  refl a := h.refl _
  flip a b := h.flip _ _
  trans a b d := h.trans _ _ _
theorem cmpBytes_self : ∀ l, Lib.compareBytes l l = 0
  | [] => rfl
  | a :: l => by
    have h : ¬ a < a := UInt8.lt_irrefl a
    simp [Lib.compareBytes, h, cmpBytes_self l]
theorem cmpBytes_flip : ∀ l m, Lib.compareBytes l m < 0 ↔ 0 < Lib.compareBytes m l
  | [], [] => by simp [Lib.compareBytes]
  | [], _ :: _ => by simp [Lib.compareBytes]
  | _ :: _, [] => by simp [Lib.compareBytes]
  | a :: l, b :: m => by
    have ih := cmpBytes_flip l m
    simp only [Lib.compareBytes]
    by_cases h1 : a < b
    · have h2 : ¬ b < a := fun h => UInt8.lt_irrefl a (UInt8.lt_trans h1 h)
      simp [h1, h2]
    · by_cases h2 : b < a
      · simp [h1, h2]
      · simp only [h1, h2, if_false]; exact ih
theorem cmpBytes_eq : ∀ l m, Lib.compareBytes l m = 0 → l = m
  | [], [], _ => rfl
  | [], _ :: _, h => by simp [Lib.compareBytes] at h
  | _ :: _, [], h => by simp [Lib.compareBytes] at h
  | a :: l, b :: m, h => by
    simp only [Lib.compareBytes] at h
    by_cases h1 : a < b
    · simp [h1] at h
    · by_cases h2 : b < a
      · simp [h1, h2] at h
      · simp only [h1, h2, if_false] at h
        rw [cmpBytes_eq l m h, show a = b from UInt8.le_antisymm (UInt8.not_lt.1 h2) (UInt8.not_lt.1 h1)]
theorem cmpBytes_trans : ∀ l m n, Lib.compareBytes l m ≤ 0 → Lib.compareBytes m n ≤ 0 → Lib.compareBytes l n ≤ 0
  | [], _, [], _, _ => by simp [Lib.compareBytes]
  | [], _, _ :: _, _, _ => by simp [Lib.compareBytes]
  | _ :: _, [], _, h, _ => by simp [Lib.compareBytes] at h
  | _ :: _, _ :: _, [], _, h => by simp [Lib.compareBytes] at h
  | a :: l, b :: m, c :: n, h1, h2 => by
    simp only [Lib.compareBytes] at *
    by_cases k1 : a < b
    · by_cases k2 : b < c
      · simp [UInt8.lt_trans k1 k2]
      · by_cases k3 : c < b
        · simp [k2, k3] at h2
        · have : b = c := UInt8.le_antisymm (UInt8.not_lt.1 k3) (UInt8.not_lt.1 k2)
          subst this; simp [k1]
    · by_cases k1' : b < a
      · simp [k1, k1'] at h1
      · have : a = b := UInt8.le_antisymm (UInt8.not_lt.1 k1') (UInt8.not_lt.1 k1)
        subst this
        simp only [k1, if_false] at h1
        by_cases k2 : a < c
        · simp [k2]
        · by_cases k3 : c < a
          · simp [k2, k3] at h2
          · simp only [k2, k3, if_false] at h2 ⊢
            exact cmpBytes_trans l m n h1 h2
theorem scmp_cmp : Cmp scmp where
  refl a := cmpBytes_self _
  flip a b := cmpBytes_flip _ _
  trans a b d := cmpBytes_trans _ _ _
theorem scmp_eq {a b : ByteArray} (h : scmp a b = 0) : a = b := by
  have := cmpBytes_eq _ _ h
  obtain ⟨⟨a⟩⟩ := a; obtain ⟨⟨b⟩⟩ := b
  simpa using this
theorem gicmp : Cmp GI.cmp := (scmp_cmp.comap GI.key).orv (scmp_cmp.comap GI.enc)
theorem kcmp_eq {k e k' e' : ByteArray} (h : kcmp k e k' e' = 0) : k = k' ∧ e = e' := by
  unfold kcmp orv at h
  by_cases h1 : scmp k k' = 0
  · rw [if_neg (by omega)] at h
    exact ⟨scmp_eq h1, scmp_eq h⟩
  · rw [if_pos h1] at h; exact absurd h h1
theorem kcmp_self (k e : ByteArray) : kcmp k e k e = 0 := by simp [kcmp, orv, scmp_cmp.refl]
/-- A batch's items rise. -/
def Rise (z : List GI) : Prop := z.Pairwise fun x y => x.cmp y < 0
theorem Rise.get {z : List GI} (h : Rise z) {a b : Nat} {x y : GI} (hab : a < b) (hx : z[a]? = some x) (hy : z[b]? = some y) : x.cmp y < 0 := by
  obtain ⟨h1, rfl⟩ := List.getElem?_eq_some_iff.1 hx
  obtain ⟨h2, rfl⟩ := List.getElem?_eq_some_iff.1 hy
  exact List.pairwise_iff_getElem.1 h a b h1 h2 hab
theorem Rise.mono {z : List GI} (h : Rise z) (k e : ByteArray) : Mono0 (fun x => kcmp x.key x.enc k e) z := by
  intro a b x y hab hx hy hlt
  rcases Nat.lt_or_eq_of_le hab with h1 | rfl
  · have := h.get h1 hx hy
    exact gicmp.lt_trans (d := ⟨k, e, [], 0⟩) this hlt
  · rw [hx] at hy; injection hy with hy; subst hy; exact hlt
theorem Rise.monoKey {z : List GI} (h : Rise z) (k : ByteArray) : Mono0 (fun x => scmp x.key k) z := by
  intro a b x y hab hx hy hlt
  rcases Nat.lt_or_eq_of_le hab with h1 | rfl
  · have h2 := h.get h1 hx hy
    have h3 : scmp x.key y.key ≤ 0 := by
      unfold GI.cmp kcmp orv at h2
      split at h2 <;> omega
    exact scmp_cmp.lt_of_le_of_lt h3 hlt
  · rw [hx] at hy; injection hy with hy; subst hy; exact hlt
end Go.Proofs.YtmpndmjfdijamaaGreatDoor
