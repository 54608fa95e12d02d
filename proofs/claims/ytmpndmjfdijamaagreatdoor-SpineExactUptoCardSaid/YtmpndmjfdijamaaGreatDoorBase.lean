/- The words that all texts of this seat use: how values, rows and multisets lie in memory, and worlds that only grow. -/
import Derived.Test.YtmpndmjfdijamaaGreatDoorProg
import Derived.WalkKit
import Derived.WalkLawsBesides
import Derived.WalkSpells
import Derived.Deep.LoopGhost
import Derived.Deep.QuietTactic
import Derived.BigQuiet
import Derived.Lib.Hide
import Derived.Sort.Grow
import Derived.Maps.AppendAt
import Derived.Shelf.SlicesQ.Load
import Derived.Lib.QuietBelow
import Derived.Deep.Draws
import Derived.KernelRfl
import Derived.StillTailTactics
import Derived.Deep.AppendLies
import Derived.Shelf.SlSortCmp.QuietGrown
set_option linter.unusedVariables false
set_option linter.unusedSimpArgs false
namespace Go.Proofs.YtmpndmjfdijamaaGreatDoor
open Go.RowKit Go.Sort

/-! ### Worlds that only grow -/
/-- Orders have been drawn and blocks have come; nothing else. -/
def Ext (w w' : World) : Prop := ∃ (n : Nat) (os : Array Obj), w' = grow (w.drewN n) os
theorem Ext.refl (w : World) : Ext w w := ⟨0, #[], by rw [grow_empty]; rfl⟩
theorem Ext.trans {a b c : World} (h : Ext a b) (k : Ext b c) : Ext a c := by
  obtain ⟨n, os, rfl⟩ := h
  obtain ⟨m, os', rfl⟩ := k
  exact ⟨n + m, os ++ os', by
    show grow (grow ((a.drewN n).drewN m) os) os' = _
    rw [grow_grow, World.drewN_drewN]⟩
theorem Ext.drewN {a b : World} (h : Ext a b) (n : Nat) : Ext a (b.drewN n) := h.trans ⟨n, #[], by rw [grow_empty]⟩
theorem Ext.drew {a b : World} (h : Ext a b) : Ext a b.drew := h.trans ⟨1, #[], by rw [grow_empty]; rfl⟩
theorem Ext.alloc {a b : World} (h : Ext a b) (o : Obj) : Ext a (b.alloc o) := h.trans ⟨0, #[o], by rw [alloc_eq_grow]; rfl⟩
theorem Ext.grow {a b : World} (h : Ext a b) (n : Nat) (os : Array Obj) : Ext a (Go.Sort.grow (b.drewN n) os) := h.trans ⟨n, os, rfl⟩
theorem Ext.size {a b : World} (h : Ext a b) : a.heap.size ≤ b.heap.size := by
  obtain ⟨n, os, rfl⟩ := h
  rw [size_grow]
  exact Nat.le_add_right _ _
theorem Ext.block {a b : World} (h : Ext a b) (k : Nat) (hk : k < a.heap.size) : b.heap[k]? = a.heap[k]? := by
  obtain ⟨n, os, rfl⟩ := h
  exact heap_grow_old (a.drewN n) os hk
theorem Ext.below {a b : World} (h : Ext a b) : Below a.heap.size a b := by
  have hs := h.size
  have hb := h.block
  obtain ⟨n, os, rfl⟩ := h
  exact ⟨rfl, rfl, rfl, hs, hb⟩
/-- What a region that draws its order wants of a callee. -/
theorem grown_ext {P : Program} {f : FuncId} {args : Array Value} {w : World} {n : Nat} {os : Array Obj} {v : Value} (h : Calls P f args (grow (w.drewN n) os) fun e w' => e = .returned v ∧ Ext (grow (w.drewN n) os) w') :
    Calls P f args (grow (w.drewN n) os) fun e w'' => e = .returned v ∧ ∃ p : GrownBy, w'' = grow (w.drewN p.n) p.os := Calls.grown_of h
/-- What the walk may use as rules. -/
theorem bcell {w w1 : World} (hb : Below w.heap.size w w1) : (∀ b o, b < w.heap.size → w1.cell? ⟨b, o, none⟩ = w.cell? ⟨b, o, none⟩) ∧ (∀ b o, b < w.heap.size → w1.frozen? ⟨b, o, none⟩ = w.frozen? ⟨b, o, none⟩) :=
  ⟨fun b o h => hb.cell (p := ⟨b, o, none⟩) h, fun b o h => hb.frozen (p := ⟨b, o, none⟩) h⟩
theorem cell_lt {w : World} {b o : Nat} {v : Value} (h : w.cell? ⟨b, o, none⟩ = some v) : b < w.heap.size := World.block_lt_of_cell? w ⟨b, o, none⟩ h
/-- A fact that the walk's simp doesn't look into. -/
structure As (p : Prop) : Prop where mk :: (out : p)

/-! ### Values -/
def i64 (n : Int) : Prop := -9223372036854775808 ≤ n ∧ n ≤ 9223372036854775807
def u64 (n : Int) : Prop := 0 ≤ n ∧ n ≤ 18446744073709551615
/-- api.Val -/
structure GV where
  k : Int
  n : Int
  f : Int
  t : ByteArray
structure GV.Ok (x : GV) : Prop where
  k : i64 x.k
  n : i64 x.n
  f : u64 x.f
  t : x.t.size ≤ 9223372036854775807
def GV.cells (x : GV) : List Value := [.int .i64 x.k, .int .i64 x.n, .int .u64 x.f, .string x.t]
theorem GV.cells_length (x : GV) : x.cells.length = 4 := rfl
theorem GV.cells_one (x : GV) : ∀ u ∈ x.cells, u.oneCell' = true := by
  intro u hu
  simp only [GV.cells, List.mem_cons, List.not_mem_nil, or_false] at hu
  rcases hu with rfl | rfl | rfl | rfl <;> rfl

/-! ### Slices that are read -/
/-- Which blocks, by number and element type, a reading may touch. -/
abbrev Blk := Nat → TypeId → Prop
def AnyB : Blk := fun _ _ => True
/-- Blocks from base on whose elements are of one of these types. -/
def Fresh (base : Nat) (ts : List TypeId) : Blk := fun b t => base ≤ b ∧ t ∈ ts
/-- A word that no type bears: where ok lets it by, blocks count too whose cells can't be written. -/
def FZ : TypeId := 1000000007
/-- This block is one of ok, and can be written unless ok lets by what can't. -/
def Okf (ok : Blk) (k : Nat) (t : TypeId) (fr : Nat × Nat) : Prop := ok k t ∧ (fr = (0, 0) ∨ ok k FZ)
theorem Okf.any (k : Nat) (t : TypeId) (fr : Nat × Nat) : Okf AnyB k t fr := ⟨trivial, .inr trivial⟩
theorem Okf.soft {ok : Blk} {k : Nat} {t : TypeId} (h : ok k t) : Okf ok k t (0, 0) := ⟨h, .inl rfl⟩
theorem Okf.mono {ok ok' : Blk} {k : Nat} {t : TypeId} {fr : Nat × Nat} (h : ∀ t, ok k t → ok' k t) (ho : Okf ok k t fr) : Okf ok' k t fr := ⟨h t ho.1, ho.2.imp id (h FZ)⟩
/-- What is ok in w is ok in w', and stands there as it stood. -/
def Stays (w w' : World) (ok ok' : Blk) : Prop := ∀ k t cells fr, Okf ok k t fr → w.heap[k]? = some (.cells cells t fr) → Okf ok' k t fr ∧ w'.heap[k]? = some (.cells cells t fr)
theorem Stays.below {w w' : World} (h : Below w.heap.size w w') (ok : Blk) : Stays w w' ok ok := fun k t cells fr ho hh => ⟨ho, (h.block k (Array.getElem?_eq_some_iff.1 hh).1).trans hh⟩
theorem Stays.mono {w : World} {ok ok' : Blk} (h : ∀ k t, ok k t → ok' k t) : Stays w w ok ok' := fun k t cells fr ho hh => ⟨ho.mono (h k), hh⟩
theorem Stays.any (w : World) (ok : Blk) : Stays w w ok AnyB := fun k t cells fr ho hh => ⟨Okf.any _ _ _, hh⟩
theorem Stays.trans {a b c : World} {o p q : Blk} (h : Stays a b o p) (k : Stays b c p q) : Stays a c o q := fun i t cells fr ho hh => let ⟨h1, h2⟩ := h i t cells fr ho hh; k i t cells fr h1 h2
/-- A row has been written (or none): what is ok is not it. -/
theorem Stays.grown {w w' : World} {row : Option Nat} (hg : w.grownBy w' row) (ok : Blk) (hne : ∀ g t cells fr, row = some g → w.heap[g]? = some (.cells cells t fr) → ¬ ok g t) : Stays w w' ok ok := fun k t cells fr ho hh =>
  ⟨ho, (hg.block k (Array.getElem?_eq_some_iff.1 hh).1 fun e => hne k t cells fr e.symm hh ho.1).trans hh⟩
/-- A store into another block. -/
theorem Stays.set {w : World} {p : Addr} (ok : Blk) (hne : ∀ t cells fr, w.heap[p.block]? = some (.cells cells t fr) → ¬ ok p.block t) (u : Value) : Stays w (w.setCell p u) ok ok := fun k t cells fr ho hh =>
  ⟨ho, (Below.heap_setCell w p u k fun e => hne t cells fr (e ▸ hh) (e ▸ ho.1)).trans hh⟩
/-- The slice v reads as xs: each element of sz cells, told by E; its block is one of ok. -/
def RdL {α : Type} (sz : Nat) (E : α → List Value → Prop) (w : World) (ok : Blk) (v : Value) (xs : List α) : Prop :=
  ∃ A c, v = .slice A xs.length c ∧ xs.length ≤ c ∧ xs.length ≤ 4294967296 ∧ (xs ≠ [] → ∃ b o cells t fr, A = some ⟨b, o, none⟩ ∧ Okf ok b t fr ∧ w.heap[b]? = some (.cells cells t fr) ∧
    ∀ j x, xs[j]? = some x → ∃ cs : List Value, cs.length = sz ∧ E x cs ∧ (∀ u ∈ cs, u.oneCell' = true) ∧ ∀ i u, cs[i]? = some u → cells[o + j * sz + i]? = some u)
section
variable {α : Type} {sz : Nat} {E E' : α → List Value → Prop} {w w' : World} {ok ok' : Blk} {v : Value} {xs : List α}
theorem RdL.nil (sz : Nat) (E : α → List Value → Prop) (w : World) (ok : Blk) : RdL sz E w ok (.slice none 0 0) [] := ⟨none, 0, rfl, Nat.le_refl _, by simp, fun h => absurd rfl h⟩
theorem RdL.move (h : RdL sz E w ok v xs) (hE : ∀ x cs, E x cs → E' x cs) (hs : Stays w w' ok ok') : RdL sz E' w' ok' v xs := by
  obtain ⟨A, c, hv, hc, hl, h⟩ := h
  refine ⟨A, c, hv, hc, hl, fun hne => ?_⟩
  obtain ⟨b, o, cells, t, fr, ha, hb, hh, hx⟩ := h hne
  obtain ⟨h1, h2⟩ := hs b t cells fr hb hh
  refine ⟨b, o, cells, t, fr, ha, h1, h2, fun j x hj => ?_⟩
  obtain ⟨cs, e1, e2, e3⟩ := hx j x hj
  exact ⟨cs, e1, hE _ _ e2, e3⟩
/-- An element's cells. -/
theorem RdL.at (h : RdL sz E w ok v xs) {j : Nat} {x : α} (hj : xs[j]? = some x) : ∃ b o c, v = .slice (some ⟨b, o, none⟩) xs.length c ∧ b < w.heap.size ∧ ∃ cs : List Value, cs.length = sz ∧ E x cs ∧ (∀ u ∈ cs, u.oneCell' = true) ∧ ∀ i u, cs[i]? = some u → w.cell? ⟨b, o + j * sz + i, none⟩ = some u := by
  obtain ⟨A, c, hv, hc, hl, h⟩ := h
  have hne : xs ≠ [] := by rintro rfl; simp at hj
  obtain ⟨b, o, cells, t, fr, rfl, hb, hh, hx⟩ := h hne
  obtain ⟨cs, e1, e2, e3, e4⟩ := hx j x hj
  exact ⟨b, o, c, hv, (Array.getElem?_eq_some_iff.1 hh).1, cs, e1, e2, e3, fun i u hu => by rw [cell_of_row w b _ cells t fr hh]; exact e4 i u hu⟩
theorem RdL.shape (h : RdL sz E w ok v xs) : ∃ A c, v = .slice A xs.length c ∧ xs.length ≤ c := by
  obtain ⟨A, c, hv, hc, hl, h⟩ := h
  exact ⟨A, c, hv, hc⟩
theorem RdL.len (h : RdL sz E w ok v xs) : xs.length ≤ 4294967296 := by
  obtain ⟨A, c, hv, hc, hl, h⟩ := h
  exact hl
/-- All cells, one behind the other. -/
theorem RdL.cells (h : RdL sz E w ok v xs) : ∃ A c, v = .slice A xs.length c ∧ xs.length ≤ c ∧ (xs ≠ [] → ∃ b o, A = some ⟨b, o, none⟩ ∧ ∀ j x, xs[j]? = some x → ∃ cs : List Value, cs.length = sz ∧ E x cs ∧ (∀ u ∈ cs, u.oneCell' = true) ∧ ∀ i u, cs[i]? = some u → w.cell? ⟨b, o + j * sz + i, none⟩ = some u) := by
  obtain ⟨A, c, hv, hc, hl, h⟩ := h
  refine ⟨A, c, hv, hc, fun hne => ?_⟩
  obtain ⟨b, o, cells, t, fr, ha, hb, hh, hx⟩ := h hne
  refine ⟨b, o, ha, fun j x hj => ?_⟩
  obtain ⟨cs, e1, e2, e3, e4⟩ := hx j x hj
  exact ⟨cs, e1, e2, e3, fun i u hu => by rw [cell_of_row w b _ cells t fr hh]; exact e4 i u hu⟩
end
/-- A value's cells. -/
def EV (x : GV) (cs : List Value) : Prop := cs = x.cells ∧ x.Ok
/-- A row. -/
abbrev RdV (w : World) (ok : Blk) (v : Value) (r : List GV) : Prop := RdL 4 EV w ok v r
theorem RdV.mv {w w' : World} {ok ok' : Blk} {v : Value} {r : List GV} (h : RdV w ok v r) (hs : Stays w w' ok ok') : RdV w' ok' v r := RdL.move h (fun _ _ e => e) hs
theorem RdV.ext {w w' : World} {ok : Blk} {v : Value} {r : List GV} (h : RdV w ok v r) (hb : Below w.heap.size w w') : RdV w' ok v r := h.mv (Stays.below hb ok)
theorem RdV.val {w : World} {ok : Blk} {v : Value} {r : List GV} (h : RdV w ok v r) {j : Nat} {x : GV} (hj : r[j]? = some x) : ∃ b o c, v = .slice (some ⟨b, o, none⟩) r.length c ∧ b < w.heap.size ∧ x.Ok ∧
    w.cell? ⟨b, o + j * 4, none⟩ = some (.int .i64 x.k) ∧ w.cell? ⟨b, o + j * 4 + 1, none⟩ = some (.int .i64 x.n) ∧ w.cell? ⟨b, o + j * 4 + 2, none⟩ = some (.int .u64 x.f) ∧ w.cell? ⟨b, o + j * 4 + 3, none⟩ = some (.string x.t) := by
  obtain ⟨b, o, c, hv, hb, cs, _, ⟨rfl, hx⟩, _, hc⟩ := h.at hj
  exact ⟨b, o, c, hv, hb, hx, hc 0 _ rfl, hc 1 _ rfl, hc 2 _ rfl, hc 3 _ rfl⟩
/-- api.Entry -/
structure GE where
  row : List GV
  w : Int
/-- An entry's cells. -/
def EE (w : World) (ok : Blk) (x : GE) (cs : List Value) : Prop := ∃ v, cs = [v, .int .i64 x.w] ∧ i64 x.w ∧ RdV w ok v x.row
/-- A multiset, a list of entries. -/
abbrev RdZ (w : World) (ok : Blk) (v : Value) (z : List GE) : Prop := RdL 2 (EE w ok) w ok v z
theorem RdZ.mv {w w' : World} {ok ok' : Blk} {v : Value} {z : List GE} (h : RdZ w ok v z) (hs : Stays w w' ok ok') : RdZ w' ok' v z :=
  RdL.move h (fun _ _ ⟨v, hc, hi, hr⟩ => ⟨v, hc, hi, hr.mv hs⟩) hs
theorem RdZ.ext {w w' : World} {ok : Blk} {v : Value} {z : List GE} (h : RdZ w ok v z) (hb : Below w.heap.size w w') : RdZ w' ok v z := h.mv (Stays.below hb ok)
theorem RdZ.ent {w : World} {ok : Blk} {v : Value} {z : List GE} (h : RdZ w ok v z) {j : Nat} {x : GE} (hj : z[j]? = some x) : ∃ b o c A d, v = .slice (some ⟨b, o, none⟩) z.length c ∧ b < w.heap.size ∧ i64 x.w ∧
    RdV w ok (.slice A x.row.length d) x.row ∧ w.cell? ⟨b, o + j * 2, none⟩ = some (.slice A x.row.length d) ∧ w.cell? ⟨b, o + j * 2 + 1, none⟩ = some (.int .i64 x.w) := by
  obtain ⟨b, o, c, hv, hb, cs, _, ⟨u, rfl, hx, hr⟩, _, hc⟩ := h.at hj
  obtain ⟨A, d, rfl, _⟩ := hr.shape
  exact ⟨b, o, c, A, d, hv, hb, hx, hr, hc 0 _ rfl, hc 1 _ rfl⟩
/-- Each element of a row is a value of the machine. -/
theorem RdV.all {w : World} {ok : Blk} {v : Value} {r : List GV} (h : RdV w ok v r) : ∀ x ∈ r, x.Ok := by
  intro x hx
  obtain ⟨j, hj⟩ := List.mem_iff_getElem?.1 hx
  obtain ⟨_, _, _, _, _, ho, _⟩ := h.val hj
  exact ho

theorem Ext.cell {w w' : World} (h : Ext w w') {a : Addr} {v : Value} (hc : w.cell? a = some v) : w'.cell? a = some v := (h.below.cell (World.block_lt_of_cell? w a hc)).trans hc
theorem gc {w : World} {a : Addr} {v : Value} (h : w.cell? a = some v) : ∀ m os, (grow (w.drewN m) os).cell? a = some v := fun m os => Ext.cell ⟨m, os, rfl⟩ h
/-- A boxed value. -/
def ValAt (W : World) (b : Nat) (k n f : Int) (t : ByteArray) : Prop :=
  W.cell? ⟨b, 0, none⟩ = some (.int .i64 k) ∧ W.cell? ⟨b, 1, none⟩ = some (.int .i64 n) ∧ W.cell? ⟨b, 2, none⟩ = some (.int .u64 f) ∧ W.cell? ⟨b, 3, none⟩ = some (.string t)
theorem ValAt.new (w : World) (b : Nat) (k n f : Int) (t : ByteArray) (ty : TypeId) (hb : b = w.heap.size) : ValAt (w.alloc (.cells #[.int .i64 k, .int .i64 n, .int .u64 f, .string t] ty)) b k n f t := by
  subst hb
  refine ⟨?_, ?_, ?_, ?_⟩ <;> simp
theorem ValAt.ext {W W' : World} {b : Nat} {k n f : Int} {t : ByteArray} (h : ValAt W b k n f t) (hE : Ext W W') : ValAt W' b k n f t :=
  ⟨hE.cell h.1, hE.cell h.2.1, hE.cell h.2.2.1, hE.cell h.2.2.2⟩

/-! ### Small words for walks -/
theorem ret_int {k : IntKind} {a b : Int} (h : a = b) : Ending.returned (.int k a) = .returned (.int k b) := by rw [h]
theorem ret_bool {a b : Bool} (h : a = b) : Ending.returned (.bool a) = .returned (.bool b) := by rw [h]
theorem int_cast_lt {a b : Nat} (h : a < b) : (a : Int) < (b : Int) := Int.ofNat_lt.2 h
/-- A contract whose world is the old one or one that only draws, as go_quiet wants it. -/
theorem quiet_same {P : Program} {f : FuncId} {args : Array Value} {w : World} {n : Nat} {v : Value} (h : Calls P f args (w.drewN n) fun e w' => e = .returned v ∧ w.drewN n = w') : Calls P f args (w.drewN n) fun e w'' => e = .returned v ∧ ∃ m, w'' = w.drewN m :=
  Calls.quiet_of_same (h.mono fun _ _ ⟨he, hw⟩ => ⟨he, hw.symm⟩)
end Go.Proofs.YtmpndmjfdijamaaGreatDoor
