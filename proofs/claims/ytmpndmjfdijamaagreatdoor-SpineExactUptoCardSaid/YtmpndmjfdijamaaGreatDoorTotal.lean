/- Sound values and rows stand in one order, and equal ones are one. -/
import Derived.Test.YtmpndmjfdijamaaGreatDoorFloat
import Derived.Test.YtmpndmjfdijamaaGreatDoorSort
set_option linter.unusedSimpArgs false
namespace Go.Proofs.YtmpndmjfdijamaaGreatDoor
open Go.RowKit Go.Sort
theorem icmp_cmp : Cmp icmp where
  refl a := by simp [icmp]
  flip a b := by unfold icmp; repeat' split <;> omega
  trans a b d h1 h2 := by unfold icmp at *; repeat' split at * <;> omega
theorem icmp_eq {a b : Int} (h : icmp a b = 0) : a = b := by unfold icmp at h; repeat' split at h <;> omega
/-- Values by kind, float, text and number. -/
def vlex (a b : GV) : Int := orv (icmp a.k b.k) (orv (icmp (fkey a.f.toNat) (fkey b.f.toNat)) (orv (scmp a.t b.t) (icmp a.n b.n)))
theorem vlex_cmp : Cmp vlex := (icmp_cmp.comap GV.k).orv ((icmp_cmp.comap fun x : GV => fkey x.f.toNat).orv ((scmp_cmp.comap GV.t).orv (icmp_cmp.comap GV.n)))
theorem orv_zero {a b : Int} (h : orv a b = 0) : a = 0 ∧ b = 0 := by unfold orv at h; split at h <;> simp_all
/-- What a sound value's fields are. -/
theorem vsound_parts {x : GV} (h : vsound x = true) : vplain x.f = x.f ∧ (x.k ≠ 3 → x.f = 0) ∧ (x.k ≠ 4 → x.t = ⟨#[]⟩) ∧ (x.k = 3 ∨ x.k = 4 → x.n = 0) := by
  have hz : vplain 0 = 0 := by
    unfold vplain
    rw [fnan_rung]
    simp [frung]
  have ht : ∀ t : ByteArray, t.toList = [] → t = ⟨#[]⟩ := fun t h => by
    rw [ByteArray.toList_eq] at h
    cases t with
    | mk d =>
      congr 1
      exact Array.toList_eq_nil_iff.1 h
  have hk := vsound_kind h
  unfold vsound eqGV at h
  rcases hk with hk | hk | hk | hk | ⟨hk, _⟩
  all_goals simp only [hk] at h ⊢
  all_goals simp at h
  · exact ⟨by rw [h.2.1, hz], fun _ => h.2.1, fun _ => ht _ h.2.2, fun h => by omega⟩
  · exact ⟨by rw [h.2.1, hz], fun _ => h.2.1, fun _ => ht _ h.2.2, fun h => by omega⟩
  · exact ⟨by rw [h.1, hz], fun _ => h.1, fun _ => ht _ h.2, fun h => by omega⟩
  · exact ⟨h.2.1.symm, fun h => absurd rfl h, fun _ => ht _ h.2.2, fun _ => h.1⟩
  · exact ⟨by rw [h.1.2, hz], fun _ => h.1.2, fun h => absurd rfl h, fun _ => h.1.1⟩
theorem vcmp_lex {a b : GV} (ha : vsound a = true) (hb : vsound b = true) : vcmp a b = vlex a b := by
  obtain ⟨a1, a2, a3, a4⟩ := vsound_parts ha
  obtain ⟨b1, b2, b3, b4⟩ := vsound_parts hb
  unfold vcmp vlex
  rw [if_neg (by simp [ha, hb])]
  by_cases hk : a.k = b.k
  · rw [if_neg (by simpa using hk), show icmp a.k b.k = 0 by rw [hk]; exact icmp_cmp.refl _]
    have o1 : ∀ x, orv 0 x = x := fun x => by simp [orv]
    rw [o1]
    by_cases h3 : a.k = 3
    · rw [if_pos h3, fcmp_key, a3 (by omega), b3 (by omega), a4 (.inl h3), b4 (.inl (by omega)), scmp_cmp.refl, o1, icmp_cmp.refl]
      generalize icmp _ _ = q
      unfold orv
      split <;> simp_all
    · rw [if_neg h3, a2 h3, b2 (by omega), icmp_cmp.refl, o1]
      by_cases h4 : a.k = 4
      · rw [if_pos h4, a4 (.inr h4), b4 (.inr (by omega)), icmp_cmp.refl]
        unfold orv
        split <;> simp_all
      · rw [if_neg h4, a3 h4, b3 (by omega), scmp_cmp.refl, o1]
  · rw [if_pos hk]
    have : icmp a.k b.k ≠ 0 := fun h => hk (icmp_eq h)
    unfold orv
    rw [if_pos this]
theorem vlex_eq {a b : GV} (oa : a.Ok) (ob : b.Ok) (ha : vsound a = true) (hb : vsound b = true) (h : vlex a b = 0) : a = b := by
  obtain ⟨h1, h2⟩ := orv_zero h
  obtain ⟨h2, h3⟩ := orv_zero h2
  obtain ⟨h3, h4⟩ := orv_zero h3
  have e1 := icmp_eq h1
  have e2 := fkey_inj oa.f ob.f (vsound_parts ha).1 (vsound_parts hb).1 (icmp_eq h2)
  have e3 := scmp_eq h3
  have e4 := icmp_eq h4
  cases a; cases b
  simp_all
def rlex : List GV → List GV → Int
  | [], [] => 0
  | [], _ :: _ => -1
  | _ :: _, [] => 1
  | a :: r, b :: s => orv (vlex a b) (rlex r s)
theorem rlex_cmp : Cmp rlex where
  refl r := by
    induction r with
    | nil => rfl
    | cons a r ih => simp [rlex, vlex_cmp.refl, ih, orv]
  flip r := by
    induction r with
    | nil => intro s; cases s <;> simp [rlex]
    | cons a r ih =>
      intro s
      cases s with
      | nil => simp [rlex]
      | cons b s =>
        have h1 := ih s
        have h2 := vlex_cmp.flip a b
        have h3 := vlex_cmp.flip b a
        simp only [rlex, orv]
        repeat' split <;> omega
  trans r := by
    induction r with
    | nil => intro s t; cases s <;> cases t <;> simp [rlex]
    | cons a r ih =>
      intro s t
      cases s with
      | nil => simp [rlex]
      | cons b s =>
        cases t with
        | nil => simp [rlex]
        | cons c t =>
          intro h1 h2
          have k1 := ih s t
          have k2 := vlex_cmp.trans a b c
          have k3 := vlex_cmp.eqv a c
          have k4 := vlex_cmp.eqv a b
          have k5 := vlex_cmp.eqv b c
          have k6 := vlex_cmp.trans b c a
          have k7 := vlex_cmp.trans c a b
          have k8 := vlex_cmp.flip a b
          have k9 := vlex_cmp.flip b c
          have k10 := vlex_cmp.flip c a
          simp only [rlex, orv] at h1 h2 ⊢
          generalize vlex a b = p1 at *
          generalize vlex b c = p2 at *
          generalize vlex a c = p3 at *
          generalize vlex b a = p4 at *
          generalize vlex c b = p5 at *
          generalize vlex c a = p6 at *
          generalize rlex r s = q1 at *
          generalize rlex s t = q2 at *
          generalize rlex r t = q3 at *
          clear ih
          split at h1 <;> split at h2 <;> split <;> omega
theorem rcmp0_lex : ∀ {r s : List GV}, (∀ x ∈ r, vsound x = true) → (∀ x ∈ s, vsound x = true) → rcmp0 r s = rlex r s
  | [], [], _, _ => rfl
  | [], _ :: _, _, _ => rfl
  | _ :: _, [], _, _ => rfl
  | a :: r, b :: s, hr, hs => by
    simp only [rcmp0, rlex, orv]
    rw [vcmp_lex (hr a (by simp)) (hs b (by simp)), rcmp0_lex (fun x hx => hr x (List.mem_cons_of_mem _ hx)) (fun x hx => hs x (List.mem_cons_of_mem _ hx))]
theorem rcmp_lex {r s : List GV} (hr : rsound r = true) (hs : rsound s = true) : rcmp r s = rlex r s := by
  unfold rcmp
  rw [if_neg (by simp [hr, hs])]
  exact rcmp0_lex (rsound_at hr).2 (rsound_at hs).2
theorem rlex_eq : ∀ {r s : List GV}, (∀ x ∈ r, x.Ok) → (∀ x ∈ s, x.Ok) → (∀ x ∈ r, vsound x = true) → (∀ x ∈ s, vsound x = true) → rlex r s = 0 → r = s
  | [], [], _, _, _, _, _ => rfl
  | [], _ :: _, _, _, _, _, h => by simp [rlex] at h
  | _ :: _, [], _, _, _, _, h => by simp [rlex] at h
  | a :: r, b :: s, o1, o2, h1, h2, h => by
    obtain ⟨e1, e2⟩ := orv_zero h
    rw [vlex_eq (o1 a (by simp)) (o2 b (by simp)) (h1 a (by simp)) (h2 b (by simp)) e1,
      rlex_eq (fun x hx => o1 x (List.mem_cons_of_mem _ hx)) (fun x hx => o2 x (List.mem_cons_of_mem _ hx)) (fun x hx => h1 x (List.mem_cons_of_mem _ hx)) (fun x hx => h2 x (List.mem_cons_of_mem _ hx)) e2]
end Go.Proofs.YtmpndmjfdijamaaGreatDoor
