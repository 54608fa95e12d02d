/- JoinAlone, step by step. -/
import Derived.Test.YtflckpfpgpfjlaaGreatDoorMKx
import Derived.Test.YtflckpfpgpfjlaaGreatDoorMKw
import Derived.Test.YtflckpfpgpfjlaaGreatDoorMKd
import Derived.Test.YtflckpfpgpfjlaaGreatDoorMKs
set_option linter.unusedVariables false
set_option linter.unusedSimpArgs false
namespace Go.Proofs.YtflckpfpgpfjlaaGreatDoor
open Go.RowKit Go.Sort
/-- A new list's blocks, as spoil takes them, and what spoil may write. -/
def SpP (lo hi : Nat) (w : World) (k : Nat) : Prop := lo ≤ k ∧ k < hi ∧ ∀ c t fz, w.heap[k]? = some (.cells c t fz) → t = 66 ∨ t = 96
def Cap (lo hi : Nat) (T : TypeId) : Blk := fun k t => t = T ∧ lo ≤ k ∧ k < hi
/-- A list of entries whose blocks lie between lo and hi. -/
def RdZ3 (w : World) (lo hi : Nat) (v : Value) (z : List GE) : Prop := RdL 2 (EE w (Cap lo hi 96)) w (Cap lo hi 66) v z
theorem cap_hard {lo hi : Nat} {T : TypeId} (hT : T ≠ FZ) {k : Nat} {t : TypeId} {fr : Nat × Nat} (h : Okf (Cap lo hi T) k t fr) : fr = (0, 0) := h.2.resolve_right fun e => hT e.1.symm
theorem RdZ2.cap {w : World} {lo : Nat} {v : Value} {z : List GE} (h : RdZ2 w lo v z) : RdZ3 w lo w.heap.size v z := by
  have key : ∀ T : TypeId, T ≠ FZ → Stays w w (Fresh lo [T]) (Cap lo w.heap.size T) := fun T hne k t cells fr ho hh => by
    have e : t = T := by have := ho.1.2; simpa using this
    subst e
    refine ⟨⟨⟨rfl, ho.1.1, (Array.getElem?_eq_some_iff.1 hh).1⟩, ho.2.imp id fun h => ?_⟩, hh⟩
    have := h.2
    simp at this
    exact absurd this.symm hne
  exact RdL.move h (fun _ _ e => e.mv (key 96 (by decide))) (key 66 (by decide))
theorem RdZ3.mv {w w' : World} {lo hi : Nat} {v : Value} {z : List GE} (h : RdZ3 w lo hi v z) (hs : ∀ T : TypeId, (T = 66 ∨ T = 96) → Stays w w' (Cap lo hi T) (Cap lo hi T)) : RdZ3 w' lo hi v z :=
  RdL.move h (fun _ _ e => e.mv (hs _ (.inr rfl))) (hs _ (.inl rfl))
theorem RdZ3.ext {w w' : World} {lo hi : Nat} {v : Value} {z : List GE} (h : RdZ3 w lo hi v z) (hb : Below w.heap.size w w') : RdZ3 w' lo hi v z := h.mv fun _ _ => Stays.below hb _
theorem RdZ3.jmut {R : Nat → Prop} {w w' : World} {lo hi : Nat} {v : Value} {z : List GE} (h : RdZ3 w lo hi v z) (hm : JMut R w w') : RdZ3 w' lo hi v z := h.mv fun T hT => hm.stays fun k t ho => by
  obtain ⟨rfl, _⟩ := id ho
  rcases hT with e | e
  · subst e; exact ⟨by decide, by decide, by decide, ho⟩
  · subst e; exact ⟨by decide, by decide, by decide, ho⟩
theorem RdZ3.none (w : World) (lo hi : Nat) (A : Option Addr) : RdZ3 w lo hi (.slice A 0 0) [] := ⟨A, 0, rfl, Nat.le_refl _, by decide, fun h => absurd rfl h⟩
theorem RdZ3.spoilable {w : World} {lo hi : Nat} {v : Value} {z : List GE} (h : RdZ3 w lo hi v z) :
    RdL 2 (ES w fun k t => t = 96 ∧ SpP lo hi w k) w (fun k t => t = 66 ∧ SpP lo hi w k) v z := by
  have key : ∀ T : TypeId, (T = 66 ∨ T = 96) → T ≠ FZ → Stays w w (Cap lo hi T) (fun k t => t = T ∧ SpP lo hi w k) := fun T hT hne k t cells fr ho hh => by
    obtain ⟨rfl, h1, h2⟩ := ho.1
    exact ⟨⟨⟨rfl, h1, h2, fun c t' fz h' => by rw [tag_eq h' hh]; exact hT⟩, .inl (cap_hard hne ho)⟩, hh⟩
  exact RdL.move h (fun _ _ e => (e.mv (key 96 (.inr rfl) (by decide))).es) (key 66 (.inl rfl) (by decide))
/-- What was written over is none of the operator's. -/
theorem JIn.wrote {R : Nat → Prop} {b bl br : Nat} {w w' : World} {lc rc : List Int} {wl wr broken : Int} {SL SR : GS} {lo hi : Nat} (h : JIn R b bl br w lc rc wl wr broken SL SR) (hw : Wrote (SpP lo hi w) w w') (hd : ∀ k, R k → ¬ (lo ≤ k ∧ k < hi)) : JIn R b bl br w' lc rc wl wr broken SL SR := by
  obtain ⟨⟨hb, hbl, hbr, hr⟩, PL, PR, lv, rv, h1, h2, h3, h4, h5, h6, h7, h8, h9⟩ := h
  have hk : ∀ k o, R k → w.heap[k]? = some o → w'.heap[k]? = some o := fun k o hR hh => (hw.block k (Array.getElem?_eq_some_iff.1 hh).1 fun hp => hd k hR ⟨hp.1, hp.2.1⟩).trans hh
  have hcols : ∀ n, Stays w w' (Fresh n [3]) (Fresh n [3]) := fun n k t cells fr ho hh => ⟨ho, (hw.block k (Array.getElem?_eq_some_iff.1 hh).1 fun hp => by
    have e : t = 3 := by have := ho.1.2; simpa using this
    subst e
    rcases hp.2.2 _ _ _ hh with e | e
    · revert e; decide
    · revert e; decide).trans hh⟩
  have hrow : ∀ P : Nat → Prop, (∀ k, P k → R k) → Stays w w' (RowB P) (RowB P) := fun P hP k t cells fr ho hh => ⟨ho, hk k _ (hP k ho.1.1) hh⟩
  have hsp : ∀ (P : Nat → Prop) (x : Nat) (S : GS), (∀ k, P k → R k) → R x → SpAt P x w S → SpAt P x w' S := fun P x S hP hx hs => by
    obtain ⟨u, bv, g1, g2, g3, g4⟩ := hs
    refine ⟨u, bv, hk x _ hx g1, g2.mv (hcols 0), ?_, g4⟩
    have h5 := g3.imp fun _ _ e => EBt.mv e (hrow P hP)
    obtain ⟨ds, ho, hr, hone, hl⟩ := h5
    refine ⟨ds, ⟨ho.1, ?_⟩, hr, hone, hl⟩
    rcases ho.2 with h6 | ⟨g, cap, cur, hv, hb, hg, hrest⟩
    · exact .inl h6
    · exact .inr ⟨g, cap, cur, hv, hb, hk g _ (hP g (g4 g (by rw [hv]; rfl))) hg, hrest⟩
  exact ⟨⟨hb, hbl, hbr, fun k hk => Nat.lt_of_lt_of_le (hr k hk) hw.size⟩, PL, PR, lv, rv, hk b _ hb h1, h2.mv (hcols 0), h3.mv (hcols 0), hsp PL bl SL h7 hbl h4, hsp PR br SR h8 hbr h5, h6, h7, h8, h9⟩
theorem JSt.wrote {R : Nat → Prop} {b bl br : Nat} {w w' : World} {lc rc : List Int} {wl wr broken : Int} {a z : List GE} {lo hi : Nat} (h : JSt R b bl br w lc rc wl wr broken a z) (hw : Wrote (SpP lo hi w) w w') (hd : ∀ k, R k → ¬ (lo ≤ k ∧ k < hi)) : JSt R b bl br w' lc rc wl wr broken a z := let ⟨SL, SR, h1, h2⟩ := h; ⟨SL, SR, h1.wrote hw hd, h2⟩
theorem spoil3_any (v : Value) (z : List GE) (lo hi : Nat) (w : World) (h : RdZ3 w lo hi v z) : Calls Tryz.prog 19 #[v] w fun e w' => e = .returned (.tuple #[]) ∧ Wrote (SpP lo hi w) w w' :=
  spoil_any (SpP lo hi w) _ _ v z w h.spoilable (fun k t h => h) (fun k t h => h)
theorem JSt.okA {R : Nat → Prop} {b bl br : Nat} {w : World} {lc rc : List Int} {wl wr broken : Int} {a z : List GE} (h : JSt R b bl br w lc rc wl wr broken a z) : ZOk a ∧ ZOk z := let ⟨_, _, _, h1, h2⟩ := h; ⟨h1.told.ok, h2.told.ok⟩
/-- Two operators beside one another, and the blocks that may be written over. -/
def Duo (n : Nat) (F : Nat → Prop) (w : World) (lc rc : List Int) (nl nr : Nat) (b bl br : Nat) (q1 : Int) (a1 z1 : List GE) (d dl dr : Nat) (q2 : Int) (a2 z2 : List GE) : Prop := ∃ R1 R2 : Nat → Prop, (∀ k, R1 k → n ≤ k) ∧ (∀ k, R2 k → n ≤ k) ∧ (∀ k, R1 k → ¬ R2 k) ∧ (∀ k, R1 k → ¬ F k) ∧ (∀ k, R2 k → ¬ F k) ∧ (∀ k, F k → k < w.heap.size) ∧
  JSt R1 b bl br w lc rc nl nr q1 a1 z1 ∧ JSt R2 d dl dr w lc rc nl nr q2 a2 z2
section
variable {n b bl br d dl dr nl nr : Nat} {F : Nat → Prop} {w w' : World} {lc rc : List Int} {a1 z1 a2 z2 da dz : List GE} {q1 q2 : Int}
theorem Duo.ext (h : Duo n F w lc rc nl nr b bl br q1 a1 z1 d dl dr q2 a2 z2) (hb : Below w.heap.size w w') : Duo n F w' lc rc nl nr b bl br q1 a1 z1 d dl dr q2 a2 z2 :=
  let ⟨R1, R2, h1, h2, h3, h4, h5, h6, h7, h8⟩ := h; ⟨R1, R2, h1, h2, h3, h4, h5, fun k hk => Nat.lt_of_lt_of_le (h6 k hk) hb.size, h7.ext hb, h8.ext hb⟩
theorem Duo.swap (h : Duo n F w lc rc nl nr b bl br q1 a1 z1 d dl dr q2 a2 z2) : Duo n F w lc rc nl nr d dl dr q2 a2 z2 b bl br q1 a1 z1 :=
  let ⟨R1, R2, h1, h2, h3, h4, h5, h6, h7, h8⟩ := h; ⟨R2, R1, h2, h1, fun k hk hq => h3 k hq hk, h5, h4, h6, h8, h7⟩
/-- What is made by others may be written over. -/
theorem Duo.free (h : Duo n F w lc rc nl nr b bl br q1 a1 z1 d dl dr q2 a2 z2) (hb : Below w.heap.size w w') : Duo n (fun k => F k ∨ w.heap.size ≤ k ∧ k < w'.heap.size) w' lc rc nl nr b bl br q1 a1 z1 d dl dr q2 a2 z2 := by
  obtain ⟨R1, R2, h1, h2, h3, h4, h5, h6, h7, h8⟩ := h
  have key : ∀ R : Nat → Prop, (∀ k, R k → k < w.heap.size) → (∀ k, R k → ¬ F k) → ∀ k, R k → ¬ (F k ∨ w.heap.size ≤ k ∧ k < w'.heap.size) := fun R hR hF k hk hq => by
    rcases hq with hq | hq
    · exact hF k hk hq
    · have := hR k hk
      omega
  refine ⟨R1, R2, h1, h2, h3, key R1 h7.low h4, key R2 h8.low h5, fun k hk => ?_, h7.ext hb, h8.ext hb⟩
  rcases hk with hk | hk
  · exact Nat.lt_of_lt_of_le (h6 k hk) hb.size
  · exact hk.2
theorem Duo.wrote {lo hi : Nat} (h : Duo n F w lc rc nl nr b bl br q1 a1 z1 d dl dr q2 a2 z2) (hw : Wrote (SpP lo hi w) w w') (hF : ∀ k, lo ≤ k → k < hi → F k) : Duo n F w' lc rc nl nr b bl br q1 a1 z1 d dl dr q2 a2 z2 :=
  let ⟨R1, R2, h1, h2, h3, h4, h5, h6, h7, h8⟩ := h; ⟨R1, R2, h1, h2, h3, h4, h5, fun k hk => Nat.lt_of_lt_of_le (h6 k hk) hw.size, h7.wrote hw fun k hk hq => h4 k hk (hF k hq.1 hq.2), h8.wrote hw fun k hk hq => h5 k hk (hF k hq.1 hq.2)⟩
theorem Duo.weak {F' : Nat → Prop} (h : Duo n F w lc rc nl nr b bl br q1 a1 z1 d dl dr q2 a2 z2) (hF : ∀ k, F' k → F k) : Duo n F' w lc rc nl nr b bl br q1 a1 z1 d dl dr q2 a2 z2 :=
  let ⟨R1, R2, h1, h2, h3, h4, h5, h6, h7, h8⟩ := h; ⟨R1, R2, h1, h2, h3, fun k hk hq => h4 k hk (hF k hq), fun k hk hq => h5 k hk (hF k hq), fun k hk => h6 k (hF k hk), h7, h8⟩
theorem Duo.new (h1 : JNew b bl br w lc rc nl nr) (hb : n ≤ b) (hl : n ≤ bl) (hr : n ≤ br) (hE : Below w.heap.size w w') (h2 : JNew d dl dr w' lc rc nl nr) (e1 : w.heap.size ≤ d) (e2 : w.heap.size ≤ dl) (e3 : w.heap.size ≤ dr) (hn : n ≤ w.heap.size) : Duo n (fun _ => False) w' lc rc nl nr b bl br 0 [] [] d dl dr 0 [] [] :=
  ⟨_, _, fun k hk => hk.1, fun k hk => Nat.le_trans hn hk.1, fun k hk hq => by have := hk.2; have := hq.1; omega, fun _ _ h => h, fun _ _ h => h, fun _ h => h.elim, (JSt.new h1 hb hl hr).ext hE, JSt.new h2 e1 e2 e3⟩
/-- What a fit step of the one leaves. -/
def DuoPost (n : Nat) (F : Nat → Prop) (w : World) (lc rc : List Int) (nl nr : Nat) (b bl br : Nat) (a1 z1 da dz : List GE) (d dl dr : Nat) (q2 : Int) (a2 z2 : List GE) (y : List GE) (v : Value) (k : Int) (w' : World) : Prop := Below n w w' ∧ (∃ R, JMut R w w') ∧ ∃ m a' z', w.heap.size ≤ m ∧ m ≤ w'.heap.size ∧ RdZ3 w' m w'.heap.size v y ∧ RdZ2 w' w.heap.size v y ∧
  Duo n (fun k => F k ∨ m ≤ k ∧ k < w'.heap.size) w' lc rc nl nr b bl br k a' z' d dl dr q2 a2 z2 ∧ ZSum a1 da a' ∧ ZSum z1 dz z' ∧ ((k = 0 ∧ ¬ Vast lc rc nl nr a1 z1 da dz ∧ JDelta lc rc nl nr a1 z1 da dz y ∧ y.length ≤ 100000) ∨ (k = 14 ∧ y = [] ∧ Vast lc rc nl nr a1 z1 da dz))
theorem Duo.step (h : Duo n F w lc rc nl nr b bl br 0 a1 z1 d dl dr q2 a2 z2) (hw : GW w) (hn : n ≤ w.heap.size) (hml : 0 < n) (v : Value) (hv : ∀ R : Nat → Prop, (∀ k, R k → n ≤ k) → RdD w (Safe R) v [da, dz]) (hf : JFit lc rc nl nr a1 z1 da dz)
    (hold : ∀ p q, RowOk p → RowOk q → p.length = nl → q.length = nr → keyOf lc p = keyOf rc q → zw a1 p * zw z1 q ≤ 1099511627776) (hc : nl + nr ≤ 1024) (sa : zsound da = true) (sz : zsound dz = true) (l1 : a1.length ≤ 100) (l2 : z1.length ≤ 100) (l3 : da.length ≤ 100) (l4 : dz.length ≤ 100) :
    Calls Tryz.prog 13 #[.pointer (some ⟨b, 0, none⟩), v] w fun e w' => ∃ A c y k, e = .returned (.tuple #[.slice A y.length c, .int .i64 k]) ∧ DuoPost n F w lc rc nl nr b bl br a1 z1 da dz d dl dr q2 a2 z2 y (.slice A y.length c) k w' := by
  obtain ⟨R1, R2, h1, h2, h3, h4, h5, h6, h7, h8⟩ := h
  have hdis : ∀ (m m' : Nat), w.heap.size ≤ m → (∀ k, Since R1 w.heap.size m k → ¬ R2 k) ∧ (∀ k, Since R1 w.heap.size m k → ¬ (F k ∨ m ≤ k ∧ k < m')) ∧ (∀ k, R2 k → ¬ (F k ∨ m ≤ k ∧ k < m')) := fun m m' hm => by
    refine ⟨fun k hk hq => ?_, fun k hk hq => ?_, fun k hk hq => ?_⟩
    · rcases hk with hk | hk
      · exact h3 k hk hq
      · have := h8.low k hq; omega
    · rcases hk with hk | hk
      · rcases hq with hq | hq
        · exact h4 k hk hq
        · have := h7.low k hk; omega
      · rcases hq with hq | hq
        · have := h6 k hq; omega
        · omega
    · rcases hq with hq | hq
      · exact h5 k hk hq
      · have := h8.low k hk; omega
  refine (jStep_any R1 b bl br lc rc nl nr 0 a1 z1 [da, dz] v w hw h7 (hv R1 h1) (fun h => by have := h1 _ h; omega) fun da' dz' h => ?_).mono fun e w' hp => ?_
  · simp only [List.cons.injEq, and_true] at h
    obtain ⟨rfl, rfl⟩ := h
    exact ⟨Nat.le_trans (Nat.mul_le_mul (show _ ≤ 200 by omega) (show _ ≤ 200 by omega)) (by decide), by omega, by omega⟩
  · by_cases hva : Vast lc rc nl nr a1 z1 da dz
    · obtain ⟨rfl, hm, a', z', hs, s1, s2⟩ := hp.vast hf hold hva sa sz
      obtain ⟨d1, d2, d3⟩ := hdis w'.heap.size w'.heap.size hm.size
      exact ⟨none, 0, [], 14, rfl, hm.low h1 hn, ⟨R1, hm⟩, w'.heap.size, a', z', hm.size, Nat.le_refl _, RdZ3.none _ _ _ _, RdL.nil _ _ _ _, ⟨_, R2, since_low h1 hn, h2, d1, d2, d3, fun k hk => hk.elim (fun h => Nat.lt_of_lt_of_le (h6 k h) hm.size) fun h => h.2, hs, h8.apart hm fun k hk hq => h3 k hq hk⟩, s1, s2, .inr ⟨rfl, rfl, hva⟩⟩
    · obtain ⟨v8, y, m, rfl, hdel, hm1, hm2, hrd, hm, a', z', hs', s1, s2, hlen⟩ := hp.okM (JOk.of hf hold hva) hc sa sz
      obtain ⟨A, c, rfl, _⟩ := hrd.shape
      obtain ⟨d1, d2, d3⟩ := hdis m w'.heap.size hm1
      have hl1 := outs1_len (lc := lc) (rc := rc) (a := a1) (b := z1) (da := da) (db := dz)
      have hl2 : (outs2 lc rc a1 z1 da dz).length ≤ dz.length * a1.length := by rw [outs2_eq]; exact flat_len dz _ _ fun x _ => f2_len x
      have hl3 : da.length * (z1.length + dz.length) ≤ 100 * 200 := Nat.mul_le_mul l3 (by omega)
      have hl4 : dz.length * a1.length ≤ 100 * 100 := Nat.mul_le_mul l4 l1
      have hl5 : (outsJ lc rc a1 z1 da dz).length = (outs1 lc rc a1 z1 da dz).length + (outs2 lc rc a1 z1 da dz).length := List.length_append
      exact ⟨A, c, y, 0, rfl, hm.low h1 hn, ⟨R1, hm⟩, m, a', z', hm1, hm2, hrd.cap, hrd.low hm1, ⟨_, R2, since_low h1 hn, h2, d1, d2, d3, fun k hk => hk.elim (fun h => Nat.lt_of_lt_of_le (h6 k h) hm.size) fun h => h.2, hs', h8.apart hm fun k hk hq => h3 k hq hk⟩, s1, s2, .inl ⟨rfl, hva, hdel, by omega⟩⟩
end
/-- A bag by itself. -/
theorem bag_self {n : Nat} {d y : List GE} (h : BagOk n [] d y) (hd : ZOk d) : WBag n d := by
  have e : y = d := zext h.made.ok hd fun r _ => by rw [h.made.sum, List.nil_append]
  subst e
  exact ⟨hd, h.len, h.w⟩
theorem zsum_nil {d a : List GE} (h : ZSum [] d a) (ha : ZOk a) (hd : ZOk d) : a = d := zext ha hd fun r hr => by rw [h r hr, zw_nil, Int.zero_add]
theorem zsum_same {d a : List GE} (h : ZSum d [] a) (ha : ZOk a) (hd : ZOk d) : a = d := zext ha hd fun r hr => by rw [h r hr, zw_nil, Int.add_zero]
theorem Duo.oks {n b bl br d dl dr nl nr : Nat} {F : Nat → Prop} {w : World} {lc rc : List Int} {a1 z1 a2 z2 : List GE} {q1 q2 : Int} (h : Duo n F w lc rc nl nr b bl br q1 a1 z1 d dl dr q2 a2 z2) : (ZOk a1 ∧ ZOk z1) ∧ ZOk a2 ∧ ZOk z2 := let ⟨_, _, _, _, _, _, _, _, h7, h8⟩ := h; ⟨h7.okA, h8.okA⟩
section
variable {n b bl br d dl dr nl nr : Nat} {F : Nat → Prop} {w w' : World} {lc rc : List Int} {a2 z2 st c1 c2 : List GE} {q2 : Int}
/-- The still side is told. -/
theorem Duo.first (h : Duo n F w lc rc nl nr b bl br 0 [] [] d dl dr q2 a2 z2) (hw : GW w) (hn : n ≤ w.heap.size) (hml : 0 < n) (v : Value) (hv : ∀ R : Nat → Prop, (∀ k, R k → n ≤ k) → RdD w (Safe R) v [[], st]) (hc : Cols2 lc rc nl nr) (WS : WBag nr st) (ss : zsound st = true) (ls : st.length ≤ 40) :
    Calls Tryz.prog 13 #[.pointer (some ⟨b, 0, none⟩), v] w fun e w' => ∃ A c, e = .returned (.tuple #[.slice A 0 c, .int .i64 0]) ∧ Below n w w' ∧ (∃ R, JMut R w w') ∧ Duo n F w' lc rc nl nr b bl br 0 [] st d dl dr q2 a2 z2 := by
  refine (h.step hw hn hml v hv (JFit.lone' hc WS) (fun p q _ _ _ _ _ => by rw [zw_nil, Int.zero_mul]; decide) hc.wide (by decide) ss (by simp) (by simp) (by simp) (by omega)).mono ?_
  rintro e w' ⟨A, c, y, k, rfl, hB, hM, m, a', z', _, _, _, _, hD, s1, s2, hr⟩
  obtain ⟨⟨o1, o2⟩, _⟩ := hD.oks
  obtain rfl := zsum_nil s1 o1 ZOk.nil
  obtain rfl := zsum_nil s2 o2 WS.ok
  rcases hr with ⟨rfl, _, hdel, _⟩ | ⟨_, _, hv⟩
  · obtain rfl := hdel.left0
    exact ⟨A, c, rfl, hB, hM, hD.weak fun k hk => .inl hk⟩
  · exact absurd hv vast_none
/-- What a change of the other side leaves. -/
structure ChgPost (n : Nat) (F : Nat → Prop) (w : World) (lc rc : List Int) (nl nr : Nat) (b bl br : Nat) (c1 st c2 : List GE) (d dl dr : Nat) (q2 : Int) (a2 z2 : List GE) (y : List GE) (v : Value) (k : Int) (m : Nat) (a' : List GE) (w' : World) : Prop where
  below : Below n w w'
  jm : ∃ R, JMut R w w'
  m1 : w.heap.size ≤ m
  m2 : m ≤ w'.heap.size
  r3 : RdZ3 w' m w'.heap.size v y
  r2 : RdZ2 w' w.heap.size v y
  duo : Duo n (fun k => F k ∨ m ≤ k ∧ k < w'.heap.size) w' lc rc nl nr b bl br k a' st d dl dr q2 a2 z2
  sum : ZSum c1 c2 a'
  out : (k = 0 ∧ ¬ Vast lc rc nl nr c1 st c2 [] ∧ JDelta lc rc nl nr c1 st c2 [] y ∧ y.length ≤ 100000) ∨ (k = 14 ∧ y = [] ∧ Vast lc rc nl nr c1 st c2 [])
theorem Duo.change (h : Duo n F w lc rc nl nr b bl br 0 c1 st d dl dr q2 a2 z2) (hw : GW w) (hn : n ≤ w.heap.size) (hml : 0 < n) (v : Value) (hv : ∀ R : Nat → Prop, (∀ k, R k → n ≤ k) → RdD w (Safe R) v [c2, []]) (hc : Cols2 lc rc nl nr) (WS : WBag nr st) (W1 : WBag nl c1) (W2 : WBag nl c2) (hs : ∀ r, zw c1 r + zw c2 r ≤ 1099511627776)
    (hold : ∀ p q, RowOk p → RowOk q → p.length = nl → q.length = nr → keyOf lc p = keyOf rc q → zw c1 p * zw st q ≤ 1099511627776) (s2 : zsound c2 = true) (ls : st.length ≤ 40) (l1 : c1.length ≤ 40) (l2 : c2.length ≤ 40) :
    Calls Tryz.prog 13 #[.pointer (some ⟨b, 0, none⟩), v] w fun e w' => ∃ A c y k m a', e = .returned (.tuple #[.slice A y.length c, .int .i64 k]) ∧ ChgPost n F w lc rc nl nr b bl br c1 st c2 d dl dr q2 a2 z2 y (.slice A y.length c) k m a' w' := by
  refine (h.step hw hn hml v hv (JFit.lone hc WS W1 W2 hs) hold hc.wide s2 (by decide) (by omega) (by omega) (by omega) (by simp)).mono ?_
  rintro e w' ⟨A, c, y, k, rfl, hB, hM, m, a', z', g1, g2, g3, g4, hD, s1, s2, hr⟩
  obtain ⟨⟨_, o2⟩, _⟩ := hD.oks
  obtain rfl := zsum_same s2 o2 WS.ok
  exact ⟨A, c, y, k, m, a', rfl, hB, hM, g1, g2, g3, g4, hD, s1, hr⟩
theorem old_of (h : ¬ Vast lc rc nl nr [] st c2 []) : ∀ p q, RowOk p → RowOk q → p.length = nl → q.length = nr → keyOf lc p = keyOf rc q → zw c2 p * zw st q ≤ 1099511627776 := fun p q hp hq hpl hql hk => by
  by_cases h1 : zw c2 p * zw st q ≤ 1099511627776
  · exact h1
  · exact absurd ⟨p, q, hp, hq, hpl, hql, hk, by rw [zw_nil, zw_nil, Int.zero_add, Int.add_zero]; omega⟩ h
/-- Nothing changes. -/
theorem Duo.again (h : Duo n F w lc rc nl nr b bl br 0 c1 st d dl dr q2 a2 z2) (hw : GW w) (hn : n ≤ w.heap.size) (hml : 0 < n) (v : Value) (hv : ∀ R : Nat → Prop, (∀ k, R k → n ≤ k) → RdD w (Safe R) v [[], []]) (hc : Cols2 lc rc nl nr) (WS : WBag nr st) (W1 : WBag nl c1) (hva : ¬ Vast lc rc nl nr [] st c1 []) (ls : st.length ≤ 40) (l1 : c1.length ≤ 40) :
    Calls Tryz.prog 13 #[.pointer (some ⟨b, 0, none⟩), v] w fun e w' => (∃ A c, e = .returned (.tuple #[.slice A 0 c, .int .i64 0])) ∧ Below n w w' := by
  refine (h.change hw hn hml v hv hc WS W1 (WBag.nil nl) (fun r => by rw [zw_nil, Int.add_zero]; exact (W1.at r).2) (old_of hva) (by decide) ls l1 (by simp)).mono ?_
  rintro e w' ⟨A, c, y, k, m, a', rfl, hp⟩
  rcases hp.out with ⟨rfl, _, hdel, _⟩ | ⟨_, _, hv⟩
  · obtain rfl := hdel.still
    exact ⟨⟨A, c, rfl⟩, hp.below⟩
  · refine absurd ?_ hva
    obtain ⟨p, q, e1, e2, e3, e4, e5, e6⟩ := hv
    refine ⟨p, q, e1, e2, e3, e4, e5, ?_⟩
    rw [zw_nil, zw_nil, Int.add_zero, Int.add_zero] at e6
    rw [zw_nil, zw_nil, Int.zero_add, Int.add_zero]
    exact e6
end
end Go.Proofs.YtflckpfpgpfjlaaGreatDoor
