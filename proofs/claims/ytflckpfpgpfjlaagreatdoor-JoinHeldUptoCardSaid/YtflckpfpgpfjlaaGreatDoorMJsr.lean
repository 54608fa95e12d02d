/- A join's Step: the Puts, and what it answers. -/
import Derived.Test.YtflckpfpgpfjlaaGreatDoorMJsp
import Derived.Test.YtflckpfpgpfjlaaGreatDoorMJp
set_option linter.unusedVariables false
set_option linter.unusedSimpArgs false
namespace Go.Proofs.YtflckpfpgpfjlaaGreatDoor
open Go.RowKit Go.Sort
/-- Blocks that a change of an operator in R leaves as they are. -/
def Safe (R : Nat → Prop) : Blk := fun k t => ¬ R k ∨ (t ≠ 133 ∧ t ≠ 136 ∧ t ≠ 74)
theorem JMut.safe {R : Nat → Prop} {w w' : World} (h : JMut R w w') : Stays w w' (Safe R) (Safe R) := fun k t cells f ho hh => ⟨ho, h.block k _ hh (by
  rcases ho.1 with h1 | h1
  · exact .inl h1
  · refine .inr fun c fz => ⟨fun e => ?_, fun e => ?_, fun e => ?_⟩
    · injection e with _ h4 _
      exact h1.1 h4
    · injection e with _ h4 _
      exact h1.2.1 h4
    · injection e with _ h4 _
      exact h1.2.2 h4)⟩
theorem Safe.fresh {R : Nat → Prop} {n : Nat} {T : List TypeId} (h1 : 133 ∉ T) (h2 : 136 ∉ T) (h3 : 74 ∉ T) (w : World) : Stays w w (Fresh n T) (Safe R) := fun k t cells f ho hh => ⟨⟨.inr ⟨fun e => h1 (e ▸ ho.1.2), fun e => h2 (e ▸ ho.1.2), fun e => h3 (e ▸ ho.1.2)⟩, .inr (.inr ⟨by decide, by decide, by decide⟩)⟩, hh⟩
theorem PAt.jmut {R P : Nat → Prop} {n p : Nat} {w w' : World} {xs : List GE} {o : Bool} (h : PAt P n p w xs o) (hm : JMut R w w') : PAt P n p w' xs o := by
  obtain ⟨v, h1, h2, h3, h4⟩ := h
  have hne : ∀ {T : TypeId} {c : Array Value} {fr : Nat × Nat}, T ≠ 133 → T ≠ 136 → T ≠ 74 → ∀ c' fz, Obj.cells c T fr ≠ .cells c' 133 fz ∧ Obj.cells c T fr ≠ .cells c' 136 fz ∧ Obj.cells c T fr ≠ .cells c' 74 fz := fun {T c fr} a1 a2 a3 c' fz => ⟨fun e => by injection e with _ h4 _; exact a1 h4, fun e => by injection e with _ h4 _; exact a2 h4, fun e => by injection e with _ h4 _; exact a3 h4⟩
  refine ⟨v, hm.block p _ h1 (.inr (hne (by decide) (by decide) (by decide))), ?_, h3, h4⟩
  have h5 := h2.imp fun _ _ e => EE.mv e (hm.stays (ok' := Fresh n [96]) fun k t h => by
    have e := List.mem_singleton.1 h.2
    subst e
    exact ⟨by decide, by decide, by decide, h⟩)
  obtain ⟨ds, ho, hr, hone, hl⟩ := h5
  refine ⟨ds, ⟨ho.1, ?_⟩, hr, hone, hl⟩
  rcases ho.2 with h6 | ⟨g, cap, cur, hv, hb, hg, hrest⟩
  · exact .inl h6
  · exact .inr ⟨g, cap, cur, hv, hb, hm.block g _ hg (.inr (hne (by decide) (by decide) (by decide))), hrest⟩
section
variable {R : Nat → Prop} {b bl br : Nat} {w : World} {lc rc : List Int} {wl wr broken : Int} {SL SR : GS} {a z : List GE}
/-- What a Put on the left leaves. -/
def PutL (R : Nat → Prop) (b bl br : Nat) (lc rc : List Int) (wl wr broken : Int) (SR : GS) (a da : List GE) (w w' : World) : Prop := ∃ SL' a', JIn (Since R w.heap.size w'.heap.size) b bl br w' lc rc wl wr broken SL' SR ∧ JMut R w w' ∧ Bag SL' lc a' ∧ (putE lc a da ≠ 0 → a' = a) ∧ (putE lc a da = 0 → ZSum a da a')
def PutR (R : Nat → Prop) (b bl br : Nat) (lc rc : List Int) (wl wr broken : Int) (SL : GS) (z dz : List GE) (w w' : World) : Prop := ∃ SR' z', JIn (Since R w.heap.size w'.heap.size) b bl br w' lc rc wl wr broken SL SR' ∧ JMut R w w' ∧ Bag SR' rc z' ∧ (putE rc z dz ≠ 0 → z' = z) ∧ (putE rc z dz = 0 → ZSum z dz z')
theorem JIn.putL (h : JIn R b bl br w lc rc wl wr broken SL SR) (hw : GW w) (bL : Bag SL lc a) {v : Value} {da : List GE} (hda : RdZ w AnyB v da) (na : a.length + da.length ≤ 1073741824) :
    Calls Tryz.prog 36 #[.pointer (some ⟨bl, 0, none⟩), v] w fun e w' => e = .returned (.int .i64 (putE lc a da)) ∧ PutL R b bl br lc rc wl wr broken SR a da w w' := by
  obtain ⟨P, hP1, hP2, hs, hk⟩ := h.left
  have hh := bL.held
  have hn := bL.inv.fine.nums
  refine (put_any P bl SL v da w hw hda hP1 hs (fun y hy => (bL.inv.fine y hy).1) (by omega) ⟨by rw [bL.live]; omega, by rw [bL.live]; omega⟩ (by omega)).mono fun e w' hp => ?_
  obtain ⟨hm, he, S', hs', hi', hc', _, _, z', ht', hf', h1, h2⟩ := told_put bL.inv bL.told bL.fair hda.vals hp
  obtain ⟨h3, h4⟩ := hk w' S' hs' hm
  rw [bL.cols] at *
  exact ⟨he, S', z', h3, h4, ⟨hi', ht', hf', hc'⟩, h1, h2⟩
theorem JIn.putR (h : JIn R b bl br w lc rc wl wr broken SL SR) (hw : GW w) (bR : Bag SR rc z) {v : Value} {dz : List GE} (hdz : RdZ w AnyB v dz) (nz : z.length + dz.length ≤ 1073741824) :
    Calls Tryz.prog 36 #[.pointer (some ⟨br, 0, none⟩), v] w fun e w' => e = .returned (.int .i64 (putE rc z dz)) ∧ PutR R b bl br lc rc wl wr broken SL z dz w w' := by
  obtain ⟨P, hP1, hP2, hs, hk⟩ := h.right
  have hh := bR.held
  have hn := bR.inv.fine.nums
  refine (put_any P br SR v dz w hw hdz hP1 hs (fun y hy => (bR.inv.fine y hy).1) (by omega) ⟨by rw [bR.live]; omega, by rw [bR.live]; omega⟩ (by omega)).mono fun e w' hp => ?_
  obtain ⟨hm, he, S', hs', hi', hc', _, _, z', ht', hf', h1, h2⟩ := told_put bR.inv bR.told bR.fair hdz.vals hp
  obtain ⟨h3, h4⟩ := hk w' S' hs' hm
  rw [bR.cols] at *
  exact ⟨he, S', z', h3, h4, ⟨hi', ht', hf', hc'⟩, h1, h2⟩
theorem JIn.cells (h : JIn R b bl br w lc rc wl wr broken SL SR) : w.cell? ⟨b, 2, none⟩ = some (.pointer (some ⟨bl, 0, none⟩)) ∧ w.cell? ⟨b, 5, none⟩ = some (.pointer (some ⟨br, 0, none⟩)) ∧ w.cell? ⟨b, 6, none⟩ = some (.int .i64 broken) ∧ w.frozen? ⟨b, 6, none⟩ = false := by
  obtain ⟨_, _, _, _, _, h1, _⟩ := h
  refine ⟨?_, ?_, ?_, Lib.frozen_of_heap h1 6⟩ <;> rw [Lib.cell_of_heap h1] <;> rfl
end
/-- The operator behind a step. -/
def JRet (R : Nat → Prop) (b bl br : Nat) (lc rc : List Int) (nl nr : Int) (a z da dz : List GE) (w w' : World) (broken : Int) : Prop := JMut R w w' ∧ ∃ a' z', JSt (Since R w.heap.size w'.heap.size) b bl br w' lc rc nl nr broken a' z' ∧ (putE lc a da = 0 → ZSum a da a') ∧ (putE rc z dz = 0 → ZSum z dz z')
/-- So too, and its blocks are older than m. -/
def JRetM (R : Nat → Prop) (m : Nat) (b bl br : Nat) (lc rc : List Int) (nl nr : Int) (a z da dz : List GE) (w w' : World) (broken : Int) : Prop := w.heap.size ≤ m ∧ m ≤ w'.heap.size ∧ JMut R w w' ∧ ∃ a' z', JSt (Since R w.heap.size m) b bl br w' lc rc nl nr broken a' z' ∧ (putE lc a da = 0 → ZSum a da a') ∧ (putE rc z dz = 0 → ZSum z dz z')
theorem JSt.sub {R R' : Nat → Prop} {b bl br : Nat} {w : World} {lc rc : List Int} {wl wr broken : Int} {a z : List GE} (h : JSt R b bl br w lc rc wl wr broken a z) (hs : ∀ k, R k → R' k) (hl : ∀ k, R' k → k < w.heap.size) : JSt R' b bl br w lc rc wl wr broken a z := let ⟨SL, SR, h1, h2⟩ := h; ⟨SL, SR, h1.sub hs hl, h2⟩
theorem JSt.low {R : Nat → Prop} {b bl br : Nat} {w : World} {lc rc : List Int} {wl wr broken : Int} {a z : List GE} (h : JSt R b bl br w lc rc wl wr broken a z) : ∀ k, R k → k < w.heap.size := let ⟨_, _, h1, _⟩ := h; h1.1.2.2.2
theorem JRetM.ret {R : Nat → Prop} {m : Nat} {b bl br : Nat} {lc rc : List Int} {nl nr : Int} {a z da dz : List GE} {w w' : World} {broken : Int} (h : JRetM R m b bl br lc rc nl nr a z da dz w w' broken) : JRet R b bl br lc rc nl nr a z da dz w w' broken := by
  obtain ⟨h1, h2, h3, a', z', h4, h5⟩ := h
  refine ⟨h3, a', z', h4.sub (fun k hk => ?_) (fun k hk => ?_), h5⟩
  · exact hk.imp id fun h => ⟨h.1, by omega⟩
  · rcases hk with hk | hk
    · exact h4.low k (.inl hk)
    · exact hk.2
def outsJ (lc rc : List Int) (a z da dz : List GE) : List GE := outs1 lc rc a z da dz ++ outs2 lc rc a z da dz
/-- Does a step break the operator? -/
def badJ (lc rc : List Int) (a z da dz : List GE) : Bool := (over1s lc rc a z da dz || over2s lc rc a z da dz) || decide (putE lc a da ≠ 0) || decide (putE rc z dz ≠ 0) || (outsJ lc rc a z da dz).any badE || overL (outsJ lc rc a z da dz)
def StepPost (R : Nat → Prop) (b bl br : Nat) (lc rc : List Int) (nl nr : Int) (a z da dz : List GE) (w : World) (e : Ending) (w' : World) : Prop :=
  if badJ lc rc a z da dz = true then e = .returned (.tuple #[.slice none 0 0, .int .i64 14]) ∧ JRet R b bl br lc rc nl nr a z da dz w w' 14
  else ∃ v d m, e = .returned (.tuple #[v, .int .i64 0]) ∧ Made (outsJ lc rc a z da dz) d ∧ RdZ2 w' m v d ∧ JRetM R m b bl br lc rc nl nr a z da dz w w' 0
theorem Since.twice {R : Nat → Prop} {n m l : Nat} (hnm : n ≤ m) (hml : m ≤ l) (k : Nat) (h : Since (Since R n m) m l k) : Since R n l k := by
  rcases h with h | h
  · rcases h with h | h
    · exact .inl h
    · exact .inr ⟨h.1, by omega⟩
  · exact .inr ⟨by omega, h.2⟩
/-- What Make answered, as Step takes it. -/
theorem MakePost.cases {l : List GE} {w w' : World} {e : Ending} (h : MakePost l w e w') : ∃ (A : Option Addr) (n c : Nat) (k : Int), e = .returned (.tuple #[.slice A n c, .int .i64 k]) ∧ Below w.heap.size w w' ∧ ((k ≠ 0 ∧ (l.any badE || overL l) = true) ∨ (k = 0 ∧ (l.any badE || overL l) = false ∧ ∃ d, Made l d ∧ RdZ2 w' w.heap.size (.slice A n c) d)) := by
  obtain ⟨hB, h⟩ := h
  cases h1 : l.any badE with
  | true =>
    rw [if_pos h1] at h
    exact ⟨none, 0, 0, 1, h, hB, .inl ⟨by decide, rfl⟩⟩
  | false =>
    rw [if_neg (by rw [h1]; simp)] at h
    cases h2 : overL l with
    | true =>
      rw [if_pos h2] at h
      exact ⟨none, 0, 0, 11, h, hB, .inl ⟨by decide, rfl⟩⟩
    | false =>
      rw [if_neg (by rw [h2]; simp)] at h
      obtain ⟨v, z, he, hm, hr, hl⟩ := h
      obtain ⟨A, c, rfl, _⟩ := hr.shape
      exact ⟨A, _, c, 0, he, hB, .inr ⟨rfl, rfl, z, hm, hr⟩⟩
end Go.Proofs.YtflckpfpgpfjlaaGreatDoor
