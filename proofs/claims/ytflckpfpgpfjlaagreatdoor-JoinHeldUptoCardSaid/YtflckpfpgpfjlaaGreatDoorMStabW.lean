/- The plain law of the stable sort: exchanges, rotations, merging in place. The walks of the stable sort at entries: swapRange, rotate, symMerge, stable. -/
import Derived.Test.YtflckpfpgpfjlaaGreatDoorMGet
set_option linter.unusedVariables false
set_option linter.unusedSimpArgs false
section
namespace Go.Proofs.YtflckpfpgpfjlaaGreatDoor
open Go.RowKit Go.Sort
section
variable {α : Type} [Inhabited α]
/-- n exchanges: the places from a on with the places from b on. -/
def swapR (d : Array α) (a b : Nat) : Nat → Array α
  | 0 => d
  | n + 1 => swp (swapR d a b n) (a + n) (b + n)
theorem size_swapR (d : Array α) (a b : Nat) : ∀ n, (swapR d a b n).size = d.size
  | 0 => rfl
  | n + 1 => by rw [swapR, size_swp, size_swapR d a b n]
theorem swapR_get (d : Array α) {a b : Nat} : ∀ {n : Nat}, a + n ≤ b → b + n ≤ d.size → ∀ k, (swapR d a b n)[k]! = if a ≤ k ∧ k < a + n then d[k - a + b]! else if b ≤ k ∧ k < b + n then d[k - b + a]! else d[k]!
  | 0, _, _, k => by rw [if_neg (by omega), if_neg (by omega)]; rfl
  | n + 1, h1, h2, k => by
    have ih := fun k => swapR_get d (n := n) (a := a) (b := b) (by omega) (by omega) k
    have hs := size_swapR d a b n
    rw [swapR]
    by_cases e1 : k = a + n
    · subst e1
      rw [swp_left _ _ _ (by omega) (by omega), ih, if_neg (by omega), if_neg (by omega), if_pos (by omega)]
      congr 1; omega
    · by_cases e2 : k = b + n
      · subst e2
        rw [swp_right _ _ _ (by omega), ih, if_neg (by omega), if_neg (by omega), if_neg (by omega), if_pos (by omega)]
        congr 1; omega
      · rw [swp_other _ _ _ _ e1 e2, ih]
        repeat' split
        all_goals first | (exfalso; omega) | rfl | (congr 1 <;> omega)
theorem swapR_perm (d : Array α) {a b lo hi : Nat} (h1 : lo ≤ a) (h2 : lo ≤ b) (hh : hi ≤ d.size) : ∀ {n : Nat}, a + n ≤ hi → b + n ≤ hi → PermIn lo hi d (swapR d a b n)
  | 0, _, _ => permIn_refl _ _ _
  | n + 1, h3, h4 => permIn_trans _ _ _ _ _ (swapR_perm d h1 h2 hh (n := n) (by omega) (by omega)) (swp_permIn _ _ _ _ _ (by omega) (by omega) (by omega) (by omega) (by rw [size_swapR]; exact hh))
/-- The blocks [a, m) and [m, b), turned round. -/
def rotF (f : Nat → α) (a m b k : Nat) : α := if a ≤ k ∧ k < a + (b - m) then f (k + (m - a)) else if a + (b - m) ≤ k ∧ k < b then f (k - (b - m)) else f k
theorem rot_gt (d : Array α) {i j m : Nat} (hj : j < i) (hi : i ≤ m) (hs : m + j ≤ d.size) (k : Nat) : rotF (fun k => (swapR d (m - i) m j)[k]!) (m - (i - j)) m (m + j) k = rotF (fun k => d[k]!) (m - i) m (m + j) k := by
  simp only [rotF, swapR_get d (a := m - i) (b := m) (n := j) (by omega) (by omega)]
  repeat' split
  all_goals first | (exfalso; omega) | rfl | (congr 1 <;> omega)
theorem rot_lt (d : Array α) {i j m : Nat} (hj : i < j) (hi : i ≤ m) (hs : m + j ≤ d.size) (k : Nat) : rotF (fun k => (swapR d (m - i) (m + j - i) i)[k]!) (m - i) m (m + (j - i)) k = rotF (fun k => d[k]!) (m - i) m (m + j) k := by
  simp only [rotF, swapR_get d (a := m - i) (b := m + j - i) (n := i) (by omega) (by omega)]
  repeat' split
  all_goals first | (exfalso; omega) | rfl | (congr 1 <;> omega)
theorem rot_eq (d : Array α) {i m : Nat} (hi : i ≤ m) (hs : m + i ≤ d.size) (k : Nat) : (swapR d (m - i) m i)[k]! = rotF (fun k => d[k]!) (m - i) m (m + i) k := by
  simp only [rotF, swapR_get d (a := m - i) (b := m) (n := i) (by omega) (by omega)]
  repeat' split
  all_goals first | (exfalso; omega) | rfl | (congr 1 <;> omega)
theorem rot_up {d dk : Array α} {a k : Nat} (hd : ∀ x, dk[x]! = rotF (fun x => d[x]!) a (a + 1) (k + 1) x) (ha : a ≤ k) (hk : k + 1 < dk.size) (x : Nat) : (swp dk k (k + 1))[x]! = rotF (fun x => d[x]!) a (a + 1) (k + 1 + 1) x := by
  by_cases e1 : x = k
  · subst e1
    rw [swp_left _ _ _ (by omega) (by omega), hd]
    simp only [rotF]
    repeat' split
    all_goals first | (exfalso; omega) | rfl | (congr 1 <;> omega)
  · by_cases e2 : x = k + 1
    · subst e2
      rw [swp_right _ _ _ (by omega), hd]
      simp only [rotF]
      repeat' split
      all_goals first | (exfalso; omega) | rfl | (congr 1 <;> omega)
    · rw [swp_other _ _ _ _ e1 e2, hd]
      simp only [rotF]
      repeat' split
      all_goals first | (exfalso; omega) | rfl | (congr 1 <;> omega)
theorem rot_down {d dk : Array α} {m k : Nat} (hd : ∀ x, dk[x]! = rotF (fun x => d[x]!) (k + 1) m (m + 1) x) (hk : k + 1 ≤ m) (hm : m < dk.size) (x : Nat) : (swp dk (k + 1) k)[x]! = rotF (fun x => d[x]!) k m (m + 1) x := by
  by_cases e1 : x = k + 1
  · subst e1
    rw [swp_left _ _ _ (by omega) (by omega), hd]
    simp only [rotF]
    repeat' split
    all_goals first | (exfalso; omega) | rfl | (congr 1 <;> omega)
  · by_cases e2 : x = k
    · subst e2
      rw [swp_right _ _ _ (by omega), hd]
      simp only [rotF]
      repeat' split
      all_goals first | (exfalso; omega) | rfl | (congr 1 <;> omega)
    · rw [swp_other _ _ _ _ e1 e2, hd]
      simp only [rotF]
      repeat' split
      all_goals first | (exfalso; omega) | rfl | (congr 1 <;> omega)
theorem rot_id {d : Array α} {a m : Nat} (x : Nat) : d[x]! = rotF (fun x => d[x]!) m m a x := by
  simp only [rotF]
  repeat' split
  all_goals first | (exfalso; omega) | rfl | (congr 1 <;> omega)
theorem rot_id2 {d : Array α} {a m : Nat} (x : Nat) : d[x]! = rotF (fun x => d[x]!) a m m x := by
  simp only [rotF]
  repeat' split
  all_goals first | (exfalso; omega) | rfl | (congr 1 <;> omega)
variable {lt : α → α → Bool}
theorem SortedIn.part {a b a' b' : Nat} {d : Array α} (h : SortedIn lt a b d) (h1 : a ≤ a') (h2 : b' ≤ b) : SortedIn lt a' b' d := fun i j hi hij hj => h i j (by omega) hij (by omega)
theorem SortedIn.moved {a b s : Nat} {d d' : Array α} (h : SortedIn lt (a + s) (b + s) d) (e : ∀ k, a ≤ k → k < b → d'[k]! = d[k + s]!) : SortedIn lt a b d' := fun i j hi hij hj => by
  rw [e i hi (by omega), e j (by omega) hj]
  exact h _ _ (by omega) (by omega) (by omega)
theorem SortedIn.join {a m b : Nat} {d : Array α} (h1 : SortedIn lt a m d) (h2 : SortedIn lt m b d) (hx : ∀ i j, a ≤ i → i < m → m ≤ j → j < b → lt d[j]! d[i]! = false) : SortedIn lt a b d := fun i j hi hij hj => by
  rcases Nat.lt_or_ge j m with h | h
  · exact h1 i j hi hij h
  · rcases Nat.lt_or_ge i m with h' | h'
    · exact hx i j hi h' h hj
    · exact h2 i j h' hij hj
theorem sorted_le (hS : SWO lt) {a b : Nat} {d : Array α} (h : SortedIn lt a b d) {i j : Nat} (hi : a ≤ i) (hij : i ≤ j) (hj : j < b) : lt d[j]! d[i]! = false := by
  rcases Nat.lt_or_eq_of_le hij with h' | rfl
  · exact h i j hi h' hj
  · exact hS.irrefl _
/-- The halves that a rotation makes. -/
theorem sym_halves {a s m e b : Nat} {d d1 : Array α} (h1 : SortedIn lt a m d) (h2 : SortedIn lt m b d) (o1 : a ≤ s) (o2 : s ≤ m) (o3 : m ≤ e) (o4 : e ≤ b) (hd : ∀ k, d1[k]! = rotF (fun k => d[k]!) s m e k)
    (hA : ∀ x y, a ≤ x → x < s → e ≤ y → y < b → lt d[y]! d[x]! = false) (hB : ∀ x y, m ≤ x → x < e → s ≤ y → y < m → lt d[y]! d[x]! = false) :
    SortedIn lt a s d1 ∧ SortedIn lt s (s + (e - m)) d1 ∧ SortedIn lt (s + (e - m)) e d1 ∧ SortedIn lt e b d1 ∧ ∀ i j, a ≤ i → i < s + (e - m) → s + (e - m) ≤ j → j < b → lt d1[j]! d1[i]! = false := by
  have r1 : ∀ k, k < s → d1[k]! = d[k]! := fun k hk => by rw [hd, rotF, if_neg (by omega), if_neg (by omega)]
  have r2 : ∀ k, s ≤ k → k < s + (e - m) → d1[k]! = d[k + (m - s)]! := fun k hk hk2 => by rw [hd, rotF, if_pos ⟨hk, hk2⟩]
  have r3 : ∀ k, s + (e - m) ≤ k → k < e → d1[k]! = d[k - (e - m)]! := fun k hk hk2 => by rw [hd, rotF, if_neg (by omega), if_pos ⟨hk, hk2⟩]
  have r4 : ∀ k, e ≤ k → d1[k]! = d[k]! := fun k hk => by rw [hd, rotF, if_neg (by omega), if_neg (by omega)]
  refine ⟨fun i j hi hij hj => ?_, fun i j hi hij hj => ?_, fun i j hi hij hj => ?_, fun i j hi hij hj => ?_, fun i j hi hi2 hj hj2 => ?_⟩
  · rw [r1 i (by omega), r1 j hj]; exact h1 i j hi hij (by omega)
  · rw [r2 i hi (by omega), r2 j (by omega) hj]; exact h2 _ _ (by omega) (by omega) (by omega)
  · rw [r3 i hi (by omega), r3 j (by omega) hj]; exact h1 _ _ (by omega) (by omega) (by omega)
  · rw [r4 i hi, r4 j (by omega)]; exact h2 i j (by omega) hij hj
  · rcases Nat.lt_or_ge i s with ci | ci
    · rw [r1 i ci]
      rcases Nat.lt_or_ge j e with cj | cj
      · rw [r3 j hj cj]; exact h1 _ _ hi (by omega) (by omega)
      · rw [r4 j cj]; exact hA i j hi ci cj hj2
    · rw [r2 i ci hi2]
      rcases Nat.lt_or_ge j e with cj | cj
      · rw [r3 j hj cj]; exact hB _ _ (by omega) (by omega) (by omega) (by omega)
      · rw [r4 j cj]; exact h2 _ _ (by omega) (by omega) hj2
/-- What the search for the split gives. -/
theorem sym_cross (hS : SWO lt) {a m b s e s0 r0 : Nat} {d : Array α} (h1 : SortedIn lt a m d) (h2 : SortedIn lt m b d) (o1 : a ≤ s) (o2 : s ≤ m) (o3 : m ≤ e) (o4 : e ≤ b)
    (hs0 : s0 = a ∨ (s = s0 → e = b)) (hr0 : r0 = m ∨ (s = r0 → e = m)) (hs : s = s0 ∨ (s0 < s ∧ lt d[e]! d[s - 1]! = false)) (hr : s = r0 ∨ (s < r0 ∧ lt d[e - 1]! d[s]! = true)) :
    (∀ x y, a ≤ x → x < s → e ≤ y → y < b → lt d[y]! d[x]! = false) ∧ (∀ x y, m ≤ x → x < e → s ≤ y → y < m → lt d[y]! d[x]! = false) := by
  refine ⟨fun x y hx hx2 hy hy2 => ?_, fun x y hx hx2 hy hy2 => ?_⟩
  · rcases hs with hs | ⟨_, hs⟩
    · rcases hs0 with h0 | h0
      · omega
      · have := h0 hs; omega
    · have l1 := sorted_le hS h1 hx (show x ≤ s - 1 by omega) (by omega)
      have l2 := sorted_le hS h2 (show m ≤ e by omega) hy hy2
      exact hS.ntrans _ _ _ (hS.ntrans _ _ _ l2 hs) l1
  · rcases hr with hr | ⟨_, hr⟩
    · rcases hr0 with h0 | h0
      · omega
      · have := h0 hr; omega
    · have l1 := sorted_le hS h2 hx (show x ≤ e - 1 by omega) (by omega)
      have l2 := sorted_le hS h1 (show a ≤ s by omega) hy hy2
      have l3 : lt d[s]! d[e - 1]! = false := by
        cases h : lt d[s]! d[e - 1]! with
        | false => rfl
        | true => have := hS.trans _ _ _ hr h; rw [hS.irrefl] at this; cases this
      exact hS.ntrans _ _ _ (hS.ntrans _ _ _ l2 l3) l1
/-- Both halves sorted: the whole is. -/
theorem sym_join {a mid b : Nat} {d d1 d2 d3 : Array α} (ham : a ≤ mid) (hmb : mid ≤ b) (hb : b ≤ d.size) (p1 : PermIn a b d d1) (hx : ∀ i j, a ≤ i → i < mid → mid ≤ j → j < b → lt d1[j]! d1[i]! = false)
    (p2 : PermIn a mid d1 d2) (s2 : SortedIn lt a mid d2) (p3 : PermIn mid b d2 d3) (s3 : SortedIn lt mid b d3) : PermIn a b d d3 ∧ SortedIn lt a b d3 := by
  have z1 : d1.size = d.size := p1.1
  have z2 : d2.size = d.size := p2.1.trans z1
  have hx2 : ∀ i j, a ≤ i → i < mid → mid ≤ j → j < b → lt d2[j]! d2[i]! = false := fun i j hi hi2 hj hj2 => by
    rw [p2.2.1 j (.inr hj)]
    exact permIn_all d1 d2 a mid (fun v => lt d1[j]! v = false) (by omega) p2 (fun i hi hi2 => hx i j hi hi2 hj hj2) i hi hi2
  have hx3 : ∀ i j, a ≤ i → i < mid → mid ≤ j → j < b → lt d3[j]! d3[i]! = false := fun i j hi hi2 hj hj2 => by
    rw [p3.2.1 i (.inl hi2)]
    exact permIn_all d2 d3 mid b (fun v => lt v d2[i]! = false) (by omega) p3 (fun j hj hj2 => hx2 i j hi hi2 hj hj2) j hj hj2
  refine ⟨permIn_trans _ _ _ _ _ p1 (permIn_trans _ _ _ _ _ (permIn_mono _ _ _ _ _ _ (Nat.le_refl _) hmb (by omega) p2) (permIn_mono _ _ _ _ _ _ ham (Nat.le_refl _) (by omega) p3)), ?_⟩
  exact SortedIn.join (fun i j hi hij hj => by rw [p3.2.1 i (.inl (by omega)), p3.2.1 j (.inl hj)]; exact s2 i j hi hij hj) s3 hx3
/-- One element into a sorted row behind it. -/
theorem ins_left (hS : SWO lt) {a i b : Nat} {d d' : Array α} (h : SortedIn lt (a + 1) b d) (o1 : a + 1 ≤ i) (o2 : i ≤ b) (hd : ∀ k, d'[k]! = rotF (fun k => d[k]!) a (a + 1) i k)
    (hl : ∀ x, a + 1 ≤ x → x < i → lt d[x]! d[a]! = true) (hr : ∀ x, i ≤ x → x < b → lt d[x]! d[a]! = false) : SortedIn lt a b d' := by
  have hh := sym_halves (lt := lt) (a := a) (s := a) (m := a + 1) (e := i) (b := b) (fun i j hi hij hj => by omega) h (Nat.le_refl _) (by omega) o1 o2 hd (fun x y h1 h2 => by omega) fun x y hx hx2 hy hy2 => by
    have : y = a := by omega
    subst this
    cases hc : lt d[y]! d[x]! with
    | false => rfl
    | true => have := hS.trans _ _ _ (hl x hx hx2) hc; rw [hS.irrefl] at this; cases this
  obtain ⟨_, s2, s3, s4, hx⟩ := hh
  refine SortedIn.join s2 (SortedIn.join s3 s4 fun p q hp hp2 hq hq2 => ?_) fun p q hp hp2 hq hq2 => hx p q hp hp2 hq hq2
  have e1 : p = i - 1 := by omega
  subst e1
  rw [hd, hd, rotF, rotF, if_neg (by omega), if_neg (by omega), if_neg (by omega), if_pos (by omega)]
  have := hr q hq hq2
  rw [show i - 1 - (i - (a + 1)) = a by omega]
  exact this
/-- One element into a sorted row ahead of it. -/
theorem ins_right (hS : SWO lt) {a i m : Nat} {d d' : Array α} (h : SortedIn lt a m d) (o1 : a ≤ i) (o2 : i ≤ m) (hd : ∀ k, d'[k]! = rotF (fun k => d[k]!) i m (m + 1) k)
    (hl : ∀ x, a ≤ x → x < i → lt d[m]! d[x]! = false) (hr : ∀ x, i ≤ x → x < m → lt d[m]! d[x]! = true) : SortedIn lt a (m + 1) d' := by
  have hh := sym_halves (lt := lt) (a := a) (s := i) (m := m) (e := m + 1) (b := m + 1) h (fun i j hi hij hj => by omega) o1 o2 (by omega) (Nat.le_refl _) hd (fun x y h1 h2 h3 h4 => by omega) fun x y hx hx2 hy hy2 => by
    have : x = m := by omega
    subst this
    cases hc : lt d[y]! d[x]! with
    | false => rfl
    | true => have := hS.trans _ _ _ (hr y hy hy2) hc; rw [hS.irrefl] at this; cases this
  obtain ⟨s1, s2, s3, _, hx⟩ := hh
  refine SortedIn.join (SortedIn.join s1 s2 fun p q hp hp2 hq hq2 => ?_) s3 fun p q hp hp2 hq hq2 => hx p q hp hp2 hq hq2
  have e1 : q = i := by omega
  subst e1
  rw [hd, hd, rotF, rotF, if_pos (by omega), if_neg (by omega), if_neg (by omega)]
  have := hl p hp hp2
  rw [show q + (m - q) = m by omega]
  exact this
end
end Go.Proofs.YtflckpfpgpfjlaaGreatDoor
end
section
namespace Go.Proofs.YtflckpfpgpfjlaaGreatDoor
open Go.RowKit Go.Sort Go.Shelf Go.Lib
section
variable {α : Type} [Inhabited α] {enc : α → List Value} {w0 : World} {blk off : Nat} {d0 : Array α}
/-- An entry's two cells. -/
def Pairs (enc : α → List Value) : Prop := ∀ x, ∃ (A : Option Addr) (n c : Nat) (m : Int), enc x = [.slice A n c, .int .i64 m]
/-- All that an exchange of two places wants and leaves. -/
structure Exch (enc : α → List Value) (w0 : World) (blk off : Nat) (dk : Array α) (W : World) (p q : Nat) (u0 u1 v0 v1 : Value) : Prop where
  a0 : W.cell? ⟨blk, off + p * 2, none⟩ = some u0
  a1 : W.cell? ⟨blk, off + p * 2 + 1, none⟩ = some u1
  b0 : W.cell? ⟨blk, off + q * 2, none⟩ = some v0
  b1 : W.cell? ⟨blk, off + q * 2 + 1, none⟩ = some v1
  f0 : W.frozen? ⟨blk, off + p * 2, none⟩ = false
  f1 : W.frozen? ⟨blk, off + p * 2 + 1, none⟩ = false
  g0 : W.frozen? ⟨blk, off + q * 2, none⟩ = false
  g1 : W.frozen? ⟨blk, off + q * 2 + 1, none⟩ = false
  e1 : enc dk[p]! = [u0, u1]
  e2 : enc dk[q]! = [v0, v1]
  out : SWK enc 2 w0 blk off (swp dk p q) ((((W.drew.setCell ⟨blk, off + p * 2, none⟩ v0).setCell ⟨blk, off + p * 2 + 1, none⟩ v1).setCell ⟨blk, off + q * 2, none⟩ u0).setCell ⟨blk, off + q * 2 + 1, none⟩ u1)
theorem exch {dk : Array α} {W : World} (hP : Pairs enc) (S : SWK enc 2 w0 blk off dk W) (R : RowK enc 2 w0 blk off d0) (hs : dk.size = d0.size) (p q : Nat) (hp : p < dk.size) (hq : q < dk.size) :
    ∃ A n c m B k d l, Exch enc w0 blk off dk W p q (.slice A n c) (.int .i64 m) (.slice B k d) (.int .i64 l) := by
  have hH := S.holds R.hblk R.hH hs
  obtain ⟨p0, p0'⟩ := hH.cell hp (show 0 < 2 by omega)
  obtain ⟨p1, p1'⟩ := hH.cell hp (show 1 < 2 by omega)
  obtain ⟨q0, q0'⟩ := hH.cell hq (show 0 < 2 by omega)
  obtain ⟨q1, q1'⟩ := hH.cell hq (show 1 < 2 by omega)
  obtain ⟨A, n, c, m, e1⟩ := hP dk[p]!
  obtain ⟨B, k, d, l, e2⟩ := hP dk[q]!
  have hw := S.swapped R p q hp hq
  rw [e1] at p0 p1 hw
  rw [e2] at q0 q1 hw
  exact ⟨A, n, c, m, B, k, d, l, p0, p1, q0, q1, p0', p1', q0', q1', e1, e2, hw⟩
set_option maxHeartbeats 4000000 in
set_option maxRecDepth 1000000 in
theorem swapRange_any (hP : Pairs enc) (R : RowK enc 2 w0 blk off d0) (cap a b n : Nat) (g : Nat) (d : Array α) (w : World) (hs : d0.size = d.size) (S : SWK enc 2 w0 blk off d w) (hab : a + n ≤ b) (hb : b + n ≤ d.size) (hsz : d.size < 4611686018427387904) :
    Calls Tryz.prog 241 #[.slice (some ⟨blk, off, none⟩) d.size cap, .int .i64 a, .int .i64 b, .int .i64 n, .func (.func g) #[] #[]] w fun e w' => e = .returned (.tuple #[]) ∧ SWK enc 2 w0 blk off (swapR d a b n) w' := by
  have S0 := As.mk S
  have mixed := mixed
  clear S
  go_enter Tryz.func241, Tryz.ntmps241
  go_wp2
  go_loopg [10] n (fun kx s10 wr => ∃ (i : Nat), i ≤ n ∧ n - i ≤ kx ∧ s10 = .int .i64 i ∧ As (SWK enc 2 w0 blk off (swapR d a b i) wr))
  case atStart => exact ⟨0, by omega, by omega, by go_num, S0⟩
  case round =>
    obtain ⟨i, hi, hk, rfl, S1⟩ := hrel
    by_cases hlt : i < n
    · have hltz : (i : Int) < (n : Int) := by omega
      have hds := size_swapR d a b i
      have HSW : As (swapR d a b (i + 1) = swp (swapR d a b i) (a + i) (b + i)) := ⟨rfl⟩
      generalize swapR d a b i = dk at *
      have ea44 : ((a : Int) + (i : Int)).toNat = a + i := by omega
      have pa44 : (0 : Int) ≤ (a : Int) + (i : Int) := by omega
      have ba44 : (a : Int) + (i : Int) < (d.size : Int) := by omega
      have ra44 : IntKind.i64.wrap ((a : Int) + (i : Int)) = (a : Int) + (i : Int) := by rw [IntKind.wrap_i64]; omega
      have ec44 : ((b : Int) + (i : Int)).toNat = b + i := by omega
      have pc44 : (0 : Int) ≤ (b : Int) + (i : Int) := by omega
      have bc44 : (b : Int) + (i : Int) < (d.size : Int) := by omega
      have rc44 : IntKind.i64.wrap ((b : Int) + (i : Int)) = (b : Int) + (i : Int) := by rw [IntKind.wrap_i64]; omega
      obtain ⟨A1, n1, c1, m1, B1, k1, d1, l1, X⟩ := exch hP S1.out R (by omega) (a + i) (b + i) (by omega) (by omega)
      have XO := As.mk X.out
      obtain ⟨a0, a1, b0, b1, f0, f1, g0, g1, _, _, _⟩ := X
      clear S1
      go_wp2_with fail
      go_big_region_o
      go_wp2
      go_roundg (n - (i + 1))
      case measure => omega
      case rel => exact ⟨i + 1, by omega, by omega, by go_num, ⟨by rw [HSW.out]; exact XO.out⟩⟩
    · have hltz : ¬ (i : Int) < (n : Int) := by omega
      obtain rfl : i = n := by omega
      go_wp2
      go_end0
      exact ⟨rfl, S1.out⟩
set_option maxHeartbeats 4000000 in
set_option maxRecDepth 1000000 in
theorem rotate_any (hP : Pairs enc) (R : RowK enc 2 w0 blk off d0) (cap a m b : Nat) (g : Nat) (d : Array α) (w : World) (hs : d0.size = d.size) (S : SWK enc 2 w0 blk off d w) (ham : a < m) (hmb : m < b) (hb : b ≤ d.size) (hsz : d.size < 4611686018427387904) :
    Calls Tryz.prog 206 #[.slice (some ⟨blk, off, none⟩) d.size cap, .int .i64 a, .int .i64 m, .int .i64 b, .func (.func g) #[] #[]] w fun e w' => e = .returned (.tuple #[]) ∧
      ∃ d', SWK enc 2 w0 blk off d' w' ∧ d'.size = d.size ∧ PermIn a b d d' ∧ ∀ k, d'[k]! = rotF (fun k => d[k]!) a m b k := by
  have S0 := As.mk S
  have HR := As.mk R
  have HP := As.mk hP
  have w1 : IntKind.i64.wrap ((m : Int) - a) = (m : Int) - a := by rw [IntKind.wrap_i64]; omega
  have w2 : IntKind.i64.wrap ((b : Int) - m) = (b : Int) - m := by rw [IntKind.wrap_i64]; omega
  clear S R hP
  go_enter Tryz.func206, Tryz.ntmps206
  go_wp2
  go_loopg [10, 11] (b - a) (fun kx s10 s11 wr => ∃ (i j : Nat) (dk : Array α), i + j ≤ kx ∧ 0 < i ∧ 0 < j ∧ i ≤ m ∧ a ≤ m - i ∧ m + j ≤ b ∧ s10 = .int .i64 i ∧ s11 = .int .i64 j ∧ dk.size = d.size ∧ As (SWK enc 2 w0 blk off dk wr) ∧ As (PermIn a b d dk) ∧ As (∀ k, rotF (fun k => dk[k]!) (m - i) m (m + j) k = rotF (fun k => d[k]!) a m b k))
  case atStart => exact ⟨m - a, b - m, d, by omega, by omega, by omega, by omega, by omega, by omega, by rw [show ((m - a : Nat) : Int) = (m : Int) - a by omega], by rw [show ((b - m : Nat) : Int) = (b : Int) - m by omega], rfl, S0, ⟨permIn_refl _ _ _⟩, ⟨fun k => by rw [show m - (m - a) = a by omega, show m + (b - m) = b by omega]⟩⟩
  case round =>
    obtain ⟨i, j, dk, hk, hi, hj, him, hai, hjb, rfl, rfl, hds, S1, P1, T1⟩ := hrel
    rcases Nat.lt_trichotomy i j with hij | hij | hij
    · have hne : ((i : Int) != (j : Int)) = true := by rw [bne_iff_ne]; omega
      have hgt : ¬ (j : Int) < (i : Int) := by omega
      have x1 : IntKind.i64.wrap ((m : Int) - i) = (m : Int) - i := by rw [IntKind.wrap_i64]; omega
      have x2 : IntKind.i64.wrap ((m : Int) + j) = (m : Int) + j := by rw [IntKind.wrap_i64]; omega
      have x3 : IntKind.i64.wrap ((m : Int) + j - i) = (m : Int) + j - i := by rw [IntKind.wrap_i64]; omega
      have x4 : IntKind.i64.wrap ((j : Int) - i) = (j : Int) - i := by rw [IntKind.wrap_i64]; omega
      have hc := swapRange_any HP.out HR.out cap (m - i) (m + j - i) i g dk wr (by omega) S1.out (by omega) (by omega) (by omega)
      rw [hds, show ((m - i : Nat) : Int) = (m : Int) - i by omega, show ((m + j - i : Nat) : Int) = (m : Int) + j - i by omega] at hc
      have HSZ := As.mk (size_swapR dk (m - i) (m + j - i) i)
      have HPP := As.mk (permIn_trans _ _ _ _ _ P1.out (swapR_perm dk (a := m - i) (b := m + j - i) (lo := a) (hi := b) (n := i) (by omega) (by omega) (by omega) (by omega) (by omega)))
      have HTT := As.mk (fun k => (rot_lt dk (i := i) (j := j) (m := m) hij him (by omega) k).trans (T1.out k))
      have HDS := As.mk hds
      clear hds
      go_wp2_with fail
      refine hc.mono ?_
      rintro e w3 ⟨rfl, hS3⟩
      have HS3 := As.mk hS3
      clear hc hS3
      go_wp2_with fail
      go_roundg (i + (j - i))
      case measure => omega
      case rel => exact ⟨i, j - i, _, by omega, by omega, by omega, by omega, by omega, by omega, rfl, by rw [show ((j - i : Nat) : Int) = (j : Int) - i by omega], HSZ.out.trans HDS.out, HS3, HPP, HTT⟩
    · have hne : ((i : Int) != (j : Int)) = false := by rw [bne_eq_false_iff_eq]; omega
      subst hij
      have x1 : IntKind.i64.wrap ((m : Int) - i) = (m : Int) - i := by rw [IntKind.wrap_i64]; omega
      have hc := swapRange_any HP.out HR.out cap (m - i) m i g dk wr (by omega) S1.out (by omega) (by omega) (by omega)
      rw [hds, show ((m - i : Nat) : Int) = (m : Int) - i by omega] at hc
      have HSZ := As.mk (size_swapR dk (m - i) m i)
      have HPP := As.mk (permIn_trans _ _ _ _ _ P1.out (swapR_perm dk (a := m - i) (b := m) (lo := a) (hi := b) (n := i) (by omega) (by omega) (by omega) (by omega) (by omega)))
      have HTT := As.mk (fun k => (rot_eq dk (i := i) (m := m) him (by omega) k).trans (T1.out k))
      have HDS := As.mk hds
      clear hds
      go_wp2_with fail
      refine hc.mono ?_
      rintro e w3 ⟨rfl, hS3⟩
      have HS3 := As.mk hS3
      clear hc hS3
      go_wp2_with fail
      go_end0
      exact ⟨rfl, _, HS3.out, HSZ.out.trans HDS.out, HPP.out, HTT.out⟩
    · have hne : ((i : Int) != (j : Int)) = true := by rw [bne_iff_ne]; omega
      have hgt : (j : Int) < (i : Int) := by omega
      have x1 : IntKind.i64.wrap ((m : Int) - i) = (m : Int) - i := by rw [IntKind.wrap_i64]; omega
      have x4 : IntKind.i64.wrap ((i : Int) - j) = (i : Int) - j := by rw [IntKind.wrap_i64]; omega
      have hc := swapRange_any HP.out HR.out cap (m - i) m j g dk wr (by omega) S1.out (by omega) (by omega) (by omega)
      rw [hds, show ((m - i : Nat) : Int) = (m : Int) - i by omega] at hc
      have HSZ := As.mk (size_swapR dk (m - i) m j)
      have HPP := As.mk (permIn_trans _ _ _ _ _ P1.out (swapR_perm dk (a := m - i) (b := m) (lo := a) (hi := b) (n := j) (by omega) (by omega) (by omega) (by omega) (by omega)))
      have HTT := As.mk (fun k => (rot_gt dk (i := i) (j := j) (m := m) hij him (by omega) k).trans (T1.out k))
      have HDS := As.mk hds
      clear hds
      go_wp2_with fail
      refine hc.mono ?_
      rintro e w3 ⟨rfl, hS3⟩
      have HS3 := As.mk hS3
      clear hc hS3
      go_wp2_with fail
      go_roundg (i - j + j)
      case measure => omega
      case rel => exact ⟨i - j, j, _, by omega, by omega, by omega, by omega, by omega, by omega, by rw [show ((i - j : Nat) : Int) = (i : Int) - j by omega], rfl, HSZ.out.trans HDS.out, HS3, HPP, HTT⟩
end
end Go.Proofs.YtflckpfpgpfjlaaGreatDoor
end
