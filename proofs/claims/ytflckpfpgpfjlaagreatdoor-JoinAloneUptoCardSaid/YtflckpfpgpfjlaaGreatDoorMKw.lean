/- A join and the join turned round, step by step. -/
import Derived.Test.YtflckpfpgpfjlaaGreatDoorMKl
import Derived.Test.YtflckpfpgpfjlaaGreatDoorMKt
set_option linter.unusedVariables false
set_option linter.unusedSimpArgs false
namespace Go.Proofs.YtflckpfpgpfjlaaGreatDoor
open Go.RowKit Go.Sort
theorem JSt.lt {R : Nat → Prop} {b bl br : Nat} {w : World} {lc rc : List Int} {nl nr q : Int} {a z : List GE} (h : JSt R b bl br w lc rc nl nr q a z) : ∀ k, R k → k < w.heap.size := let ⟨_, _, hI, _⟩ := h; hI.1.2.2.2
theorem JSt.lens {R : Nat → Prop} {b bl br : Nat} {w : World} {lc rc : List Int} {nl nr q : Int} {a z : List GE} (h : JSt R b bl br w lc rc nl nr q a z) : True := trivial
section
variable {n b bl br d dl dr nl nr : Nat} {w w' : World} {lc rc : List Int} {a z da dz a2 z2 : List GE}
/-- Two operators, the one turned round: both whole, or both broken. -/
def Two (n b bl br d dl dr : Nat) (w : World) (lc rc : List Int) (nl nr : Nat) (a z : List GE) : Prop := ∃ R1 R2 : Nat → Prop, (∀ k, R1 k → n ≤ k) ∧ (∀ k, R2 k → n ≤ k) ∧ (∀ k, R1 k → ¬ R2 k) ∧
  ((JSt R1 b bl br w lc rc nl nr 0 a z ∧ JSt R2 d dl dr w rc lc nr nl 0 z a ∧ Small lc rc a z) ∨ (∃ a' z', a'.length ≤ 1640 ∧ z'.length ≤ 1640 ∧ JSt R1 b bl br w lc rc nl nr 14 a' z' ∧ JSt R2 d dl dr w rc lc nr nl 14 z' a'))
theorem Two.ext (h : Two n b bl br d dl dr w lc rc nl nr a z) (hb : Below w.heap.size w w') : Two n b bl br d dl dr w' lc rc nl nr a z := by
  obtain ⟨R1, R2, h1, h2, h3, h4⟩ := h
  refine ⟨R1, R2, h1, h2, h3, ?_⟩
  rcases h4 with ⟨g1, g2, g3⟩ | ⟨a', z', l1, l2, g1, g2⟩
  · exact .inl ⟨g1.ext hb, g2.ext hb, g3⟩
  · exact .inr ⟨a', z', l1, l2, g1.ext hb, g2.ext hb⟩
/-- Behind the first one's step. -/
def HalfT (n b bl br d dl dr : Nat) (w : World) (lc rc : List Int) (nl nr : Nat) (a z da dz a2 z2 y : List GE) (k : Int) : Prop := ∃ R1 R2 : Nat → Prop, (∀ k, R1 k → n ≤ k) ∧ (∀ k, R2 k → n ≤ k) ∧ (∀ k, R1 k → ¬ R2 k) ∧
  ((k = 0 ∧ JOk lc rc nl nr a z da dz ∧ JDelta lc rc nl nr a z da dz y ∧ JSt R1 b bl br w lc rc nl nr 0 a2 z2 ∧ JSt R2 d dl dr w rc lc nr nl 0 z a) ∨
   (k = 14 ∧ Vast lc rc nl nr a z da dz ∧ Small lc rc a z ∧ JSt R1 b bl br w lc rc nl nr 14 a2 z2 ∧ JSt R2 d dl dr w rc lc nr nl 0 z a) ∨
   (k = 14 ∧ ∃ a' z', a'.length ≤ 1640 ∧ z'.length ≤ 1640 ∧ JSt R1 b bl br w lc rc nl nr 14 a' z' ∧ JSt R2 d dl dr w rc lc nr nl 14 z' a'))
theorem HalfT.ext {y : List GE} {k : Int} (h : HalfT n b bl br d dl dr w lc rc nl nr a z da dz a2 z2 y k) (hb : Below w.heap.size w w') : HalfT n b bl br d dl dr w' lc rc nl nr a z da dz a2 z2 y k := by
  obtain ⟨R1, R2, h1, h2, h3, h4⟩ := h
  refine ⟨R1, R2, h1, h2, h3, ?_⟩
  rcases h4 with ⟨e, g0, g1, g2, g3⟩ | ⟨e, g0, g1, g2, g3⟩ | ⟨e, a', z', l1, l2, g2, g3⟩
  · exact .inl ⟨e, g0, g1, g2.ext hb, g3.ext hb⟩
  · exact .inr (.inl ⟨e, g0, g1, g2.ext hb, g3.ext hb⟩)
  · exact .inr (.inr ⟨e, a', z', l1, l2, g2.ext hb, g3.ext hb⟩)
/-- What a step of one of them answers. -/
def OutPost (n : Nat) (y : List GE) (k : Int) (w : World) (e : Ending) (w' : World) : Prop := ∃ A c, e = .returned (.tuple #[.slice A y.length c, .int .i64 k]) ∧ RdZ2 w' w.heap.size (.slice A y.length c) y ∧ Below n w w' ∧ ∃ R, JMut R w w'
theorem StepAny.broken {R : Nat → Prop} {q : Int} {e : Ending} (h : StepAny R b bl br lc rc nl nr q a z [da, dz] w e w') (hq : q ≠ 0) (hf : fitsD nl nr [da, dz] = true) : e = .returned (.tuple #[.slice none 0 0, .int .i64 q]) ∧ Ext w w' := by
  unfold StepAny at h
  rw [if_neg (by rw [hf]; decide), if_pos hq] at h
  exact h
theorem bag_fits (BA : BagOk nl a da a2) (BZ : BagOk nr z dz z2) : fitsD nl nr [da, dz] = true := by
  unfold fitsD
  simp only
  rw [fits_of BA.sd (fun x hx => by rw [BA.len x hx]), fits_of BZ.sd (fun x hx => by rw [BZ.len x hx])]
  rfl
theorem since_low {R : Nat → Prop} {m l : Nat} (h : ∀ k, R k → n ≤ k) (hm : n ≤ m) : ∀ k, Since R m l k → n ≤ k := fun k hk => by
  rcases hk with hk | hk
  · exact h k hk
  · have := hk.1
    omega
theorem small_turn (h : Small lc rc a z) : Small rc lc z a := fun x hx y hy hm => by
  rw [Int.mul_comm]
  exact h y hy x hx (by rw [meetK_comm]; exact hm)
theorem two_left (h : Two n b bl br d dl dr w lc rc nl nr a z) (hw : GW w) (hn : n ≤ w.heap.size) (hml : 0 < n) (v : Value) (hv : ∀ R : Nat → Prop, (∀ k, R k → n ≤ k) → RdD w (Safe R) v [da, dz]) (hc : Cols2 lc rc nl nr) (wa : WBag nl a) (wz : WBag nr z) (BA : BagOk nl a da a2) (BZ : BagOk nr z dz z2) (hda : ZOk da) (hdz : ZOk dz) (la : a.length ≤ 1600) (lz : z.length ≤ 1600) :
    Calls Tryz.prog 13 #[.pointer (some ⟨b, 0, none⟩), v] w fun e w' => ∃ y k, OutPost n y k w e w' ∧ HalfT n b bl br d dl dr w' lc rc nl nr a z da dz a2 z2 y k := by
  obtain ⟨R1, R2, h1, h2, h3, h4⟩ := h
  have hfa := BA.few
  have hfz := BZ.few
  rcases h4 with ⟨g1, g2, g3⟩ | ⟨a', z', l1, l2, g1, g2⟩
  · refine (jStep_any R1 b bl br lc rc nl nr 0 a z [da, dz] v w hw g1 (hv R1 h1) (fun h => by have := h1 _ h; omega) fun da' dz' h => ?_).mono fun e w' hp => ?_
    · simp only [List.cons.injEq, and_true] at h
      obtain ⟨rfl, rfl⟩ := h
      exact ⟨Nat.le_trans (Nat.mul_le_mul (show _ ≤ 1640 by omega) (show _ ≤ 1640 by omega)) (by decide), by omega, by omega⟩
    · have hfit := JFit.of hc wa wz BA BZ hda hdz
      have hold : ∀ p q, RowOk p → RowOk q → p.length = nl → q.length = nr → keyOf lc p = keyOf rc q → zw a p * zw z q ≤ 1099511627776 := fun p q _ _ _ _ hk => g3.at wa.ok wz.ok p q hk
      have hdis : ∀ (m l : Nat), (∀ k, R2 k → k < m) → ∀ k, Since R1 m l k → ¬ R2 k := fun m l hlt k hk hq => by
        rcases hk with hk | hk
        · exact h3 k hk hq
        · have := hlt k hq
          have := hk.1
          omega
      by_cases hv : Vast lc rc nl nr a z da dz
      · obtain ⟨rfl, hm, a3, z3, hs, s1, s2⟩ := hp.vast hfit hold hv BA.sd BZ.sd
        exact ⟨[], 14, ⟨none, 0, rfl, RdL.nil _ _ _ _, hm.low h1 hn, R1, hm⟩, _, R2, since_low h1 hn, h2, hdis _ _ g2.lt, .inr (.inl ⟨rfl, hv, g3, hs.one s1 s2 BA.made BZ.made, g2.apart hm fun k hk hq => h3 k hq hk⟩)⟩
      · have hok := JOk.of hfit hold hv
        obtain ⟨v8, y, rfl, hdel, hrd, hm, a3, z3, hs, s1, s2, _⟩ := hp.ok hok hc.wide BA.sd BZ.sd
        obtain ⟨A, c, rfl, _⟩ := hrd.shape
        exact ⟨y, 0, ⟨A, c, rfl, hrd, hm.low h1 hn, R1, hm⟩, _, R2, since_low h1 hn, h2, hdis _ _ g2.lt, .inl ⟨rfl, hok, hdel, hs.one s1 s2 BA.made BZ.made, g2.apart hm fun k hk hq => h3 k hq hk⟩⟩
  · refine (jStep_any R1 b bl br lc rc nl nr 14 a' z' [da, dz] v w hw g1 (hv R1 h1) (fun h => by have := h1 _ h; omega) fun da' dz' h => ?_).mono fun e w' hp => ?_
    · simp only [List.cons.injEq, and_true] at h
      obtain ⟨rfl, rfl⟩ := h
      exact ⟨Nat.le_trans (Nat.mul_le_mul (show _ ≤ 1700 by omega) (show _ ≤ 1700 by omega)) (by decide), by omega, by omega⟩
    · obtain ⟨rfl, hE⟩ := hp.broken (by decide) (bag_fits BA BZ)
      exact ⟨[], 14, ⟨none, 0, rfl, RdL.nil _ _ _ _, hE.below.mono hn, R1, JMut.of R1 hE.below⟩, R1, R2, h1, h2, h3, .inr (.inr ⟨rfl, a', z', l1, l2, g1.ext hE.below, g2.ext hE.below⟩)⟩
theorem two_right {y : List GE} {k : Int} (h : HalfT n b bl br d dl dr w lc rc nl nr a z da dz a2 z2 y k) (hw : GW w) (hn : n ≤ w.heap.size) (hml : 0 < n) (v : Value) (hv : ∀ R : Nat → Prop, (∀ k, R k → n ≤ k) → RdD w (Safe R) v [dz, da]) (hc : Cols2 lc rc nl nr) (wa : WBag nl a) (wz : WBag nr z) (BA : BagOk nl a da a2) (BZ : BagOk nr z dz z2) (hda : ZOk da) (hdz : ZOk dz) (la : a.length ≤ 1600) (lz : z.length ≤ 1600) :
    Calls Tryz.prog 13 #[.pointer (some ⟨d, 0, none⟩), v] w fun e w' => ∃ y2, OutPost n y2 k w e w' ∧ (k = 0 ∨ k = 14) ∧ (k = 0 → (ZOk y ∧ FairZ y ∧ ∀ x ∈ y, Pair nl nr x.row) ∧ ∀ t, Made (turnedL nl y) t → t = y2) ∧ Two n b bl br d dl dr w' lc rc nl nr a2 z2 := by
  obtain ⟨R1, R2, h1, h2, h3, h4⟩ := h
  have hfa := BA.few
  have hfz := BZ.few
  have hla2 : a2.length ≤ 1640 := by have := BA.made.length; rw [List.length_append] at this; omega
  have hlz2 : z2.length ≤ 1640 := by have := BZ.made.length; rw [List.length_append] at this; omega
  have hdis : ∀ (m l : Nat), (∀ k, R1 k → k < m) → ∀ k, R1 k → ¬ Since R2 m l k := fun m l hlt k hk hq => by
    rcases hq with hq | hq
    · exact h3 k hk hq
    · have := hlt k hk
      have := hq.1
      omega
  rcases h4 with ⟨rfl, hok, hdel, g1, g2⟩ | ⟨rfl, hva, hsm, g1, g2⟩ | ⟨rfl, a', z', l1, l2, g1, g2⟩
  · refine (jStep_any R2 d dl dr rc lc nr nl 0 z a [dz, da] v w hw g2 (hv R2 h2) (fun h => by have := h2 _ h; omega) fun da' dz' h => ?_).mono fun e w' hp => ?_
    · simp only [List.cons.injEq, and_true] at h
      obtain ⟨rfl, rfl⟩ := h
      exact ⟨Nat.le_trans (Nat.mul_le_mul (show _ ≤ 1640 by omega) (show _ ≤ 1640 by omega)) (by decide), by omega, by omega⟩
    · have hok2 : JOk rc lc nr nl z a dz da := ⟨hok.fit.turn, fun p q hp hq hpl hql hk => by rw [Int.mul_comm]; exact hok.old q p hq hp hql hpl hk.symm, fun p q hp hq hpl hql hk => by rw [Int.mul_comm]; exact hok.new q p hq hp hql hpl hk.symm⟩
      obtain ⟨v8, y2, rfl, hdel2, hrd, hm, z3, a3, hs, s1, s2, _⟩ := hp.ok hok2 hc.turn.wide BZ.sd BA.sd
      obtain ⟨A, c, rfl, _⟩ := hrd.shape
      have hs2 : Small lc rc a2 z2 := (small_vast wa wz BA BZ).2 fun ⟨p, q, e1, e2, e3, e4, e5, e6⟩ => by have := hok.new p q e1 e2 e3 e4 e5; omega
      exact ⟨y2, ⟨A, c, rfl, hrd, hm.low h2 hn, R2, hm⟩, .inl rfl, fun _ => ⟨⟨hdel.ok, hdel.fz, hdel.pair⟩, fun t ht => hdel.turned hc.wide hdel2 ht⟩, R1, _, h1, since_low h2 hn, hdis _ _ g1.lt, .inl ⟨g1.apart hm h3, hs.one s1 s2 BZ.made BA.made, hs2⟩⟩
  · refine (jStep_any R2 d dl dr rc lc nr nl 0 z a [dz, da] v w hw g2 (hv R2 h2) (fun h => by have := h2 _ h; omega) fun da' dz' h => ?_).mono fun e w' hp => ?_
    · simp only [List.cons.injEq, and_true] at h
      obtain ⟨rfl, rfl⟩ := h
      exact ⟨Nat.le_trans (Nat.mul_le_mul (show _ ≤ 1640 by omega) (show _ ≤ 1640 by omega)) (by decide), by omega, by omega⟩
    · obtain ⟨rfl, hm, z3, a3, hs, s1, s2⟩ := hp.vast (JFit.of hc wa wz BA BZ hda hdz).turn (fun p q _ _ _ _ hk => by rw [Int.mul_comm]; exact hsm.at wa.ok wz.ok q p hk.symm) hva.turn BZ.sd BA.sd
      exact ⟨[], ⟨none, 0, rfl, RdL.nil _ _ _ _, hm.low h2 hn, R2, hm⟩, .inr rfl, (fun h => absurd h (by decide)), R1, _, h1, since_low h2 hn, hdis _ _ g1.lt, .inr ⟨a2, z2, hla2, hlz2, g1.apart hm h3, hs.one s1 s2 BZ.made BA.made⟩⟩
  · refine (jStep_any R2 d dl dr rc lc nr nl 14 z' a' [dz, da] v w hw g2 (hv R2 h2) (fun h => by have := h2 _ h; omega) fun da' dz' h => ?_).mono fun e w' hp => ?_
    · simp only [List.cons.injEq, and_true] at h
      obtain ⟨rfl, rfl⟩ := h
      exact ⟨Nat.le_trans (Nat.mul_le_mul (show _ ≤ 1700 by omega) (show _ ≤ 1700 by omega)) (by decide), by omega, by omega⟩
    · obtain ⟨rfl, hE⟩ := hp.broken (by decide) (bag_fits BZ BA)
      exact ⟨[], ⟨none, 0, rfl, RdL.nil _ _ _ _, hE.below.mono hn, R2, JMut.of R2 hE.below⟩, .inr rfl, (fun h => absurd h (by decide)), R1, R2, h1, h2, h3, .inr ⟨a', z', l1, l2, g1.ext hE.below, g2.ext hE.below⟩⟩
end
end Go.Proofs.YtflckpfpgpfjlaaGreatDoor
