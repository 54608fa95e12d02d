/- The walks of plan.Width, of the plan of a join. The walk of plan.Width, of the plan of a join. -/
import Derived.Test.YtflckpfpgpfjlaaGreatDoorMBase
import Derived.Defers
import Derived.Recover
import Derived.Laws.Pointers
set_option linter.unusedVariables false
set_option linter.unusedSimpArgs false
section
namespace Go.Proofs.YtflckpfpgpfjlaaGreatDoor
open Go.RowKit Go.Sort
theorem must_yes (w : World) : Calls Tryz.prog 138 #[.bool true] w fun e w' => e = .returned (.tuple #[]) ∧ w = w' := by
  go_enter Tryz.func138, Tryz.ntmps138
  go_wp2
  go_end0
  exact ⟨rfl, rfl⟩
/-- The panic of a look that gives up. -/
def gaveUp : List PanicEntry := [{ v := .iface 148 (.agg #[]), recovered := false }]
theorem must_no (w : World) : Calls Tryz.prog 138 #[.bool false] w fun e w' => e = .panicked gaveUp ∧ w = w' := by
  go_enter Tryz.func138, Tryz.ntmps138
  go_wp2
  exact ⟨rfl, rfl, rfl⟩
theorem takesA_any (n : Int) (w : World) : Calls Tryz.prog 139 #[.int .i64 n] w fun e w' => e = .returned (.bool (decide (3 ≤ n) && decide (n ≤ 14))) ∧ w = w' := by
  go_enter Tryz.func139, Tryz.ntmps139
  go_wp2
  all_goals (go_ret; exact ⟨ret_bool (by simp [*] <;> omega), rfl⟩)
theorem takesB_any (n : Int) (w : World) : Calls Tryz.prog 140 #[.int .i64 n] w fun e w' => e = .returned (.bool (decide (5 ≤ n) && decide (n ≤ 9))) ∧ w = w' := by
  go_enter Tryz.func140, Tryz.ntmps140
  go_wp2
  all_goals (go_ret; exact ⟨ret_bool (by simp [*] <;> omega), rfl⟩)
/-- plan.columns -/
def colsIn (cols : List Int) (width : Int) : Bool := decide (cols.length ≤ 1024) && cols.all fun c => decide (0 ≤ c) && decide (c < width)
def MustPost (ok : Bool) (w : World) (e : Ending) (w' : World) : Prop := Ext w w' ∧ if ok = true then e = .returned (.tuple #[]) else e = .panicked gaveUp
theorem MustPost.yes {ok : Bool} {w w' : World} (h : ok = true) (hE : Ext w w') : MustPost ok w (.returned (.tuple #[])) w' := ⟨hE, by rw [if_pos h]⟩
theorem MustPost.no {ok : Bool} {w w' : World} (h : ok = false) (hE : Ext w w') : MustPost ok w (.panicked gaveUp) w' := ⟨hE, by rw [if_neg (by rw [h]; simp)]⟩
theorem colsIn_no {cols : List Int} {width c : Int} {k : Nat} (hc : cols[k]? = some c) (h : ¬ (0 ≤ c ∧ c < width)) : colsIn cols width = false := by
  unfold colsIn
  rw [Bool.and_eq_false_iff]
  right
  rw [List.all_eq_false]
  exact ⟨c, List.mem_of_getElem? hc, by simpa using fun h1 => by omega⟩
theorem colsIn_yes {cols : List Int} {width : Int} (hl : cols.length ≤ 1024) (h : ∀ (i : Nat) (c : Int), cols[i]? = some c → 0 ≤ c ∧ c < width) : colsIn cols width = true := by
  unfold colsIn
  rw [decide_eq_true hl, Bool.true_and, List.all_eq_true]
  intro c hc
  obtain ⟨i, hi⟩ := List.mem_iff_getElem?.1 hc
  simpa using h i c hi
set_option maxRecDepth 100000 in
set_option maxHeartbeats 2000000 in
theorem columns_any (v : Value) (cols : List Int) (width : Int) (w : World) (hr : RdI w AnyB v cols) : Calls Tryz.prog 143 #[v, .int .i64 width] w (MustPost (colsIn cols width) w) := by
  obtain ⟨A, c, rfl, _⟩ := hr.shape
  have hl := hr.len
  have HR := As.mk hr
  clear hr
  by_cases hbig : 1024 < cols.length
  · have hz : decide ((cols.length : Int) ≤ 1024) = false := decide_eq_false (by omega)
    have HF : As (colsIn cols width = false) := ⟨by unfold colsIn; rw [decide_eq_false (by omega)]; rfl⟩
    go_enter Tryz.func143, Tryz.ntmps143
    go_wp2_with (go_at_call 138; refine (must_no _).mono ?_; rintro e w' ⟨rfl, rfl⟩)
    exact ⟨rfl, MustPost.no HF.out (by repeat (first | (with_reducible exact Ext.refl _) | (with_reducible assumption) | (with_reducible apply Ext.alloc) | (with_reducible apply Ext.drewN) | (with_reducible apply Ext.drew) | (with_reducible apply Ext.grow) | (with_reducible refine Ext.trans ?_ (by with_reducible assumption))))⟩
  · have hz : decide ((cols.length : Int) ≤ 1024) = true := decide_eq_true (by omega)
    go_enter Tryz.func143, Tryz.ntmps143
    go_wp2_with (go_at_call 138; refine (must_yes _).mono ?_; rintro e w' ⟨rfl, rfl⟩)
    go_loopg [12, 5] cols.length (fun g s12 _ wr => ∃ k : Nat, k ≤ cols.length ∧ cols.length - k ≤ g ∧ s12 = .int .i64 k ∧ As (Ext w wr) ∧ As (∀ (i : Nat) (c : Int), i < k → cols[i]? = some c → 0 ≤ c ∧ c < width))
    case atStart => exact ⟨0, by omega, by omega, by go_num, ⟨Ext.refl _⟩, ⟨fun i c h => absurd h (Nat.not_lt_zero _)⟩⟩
    case round =>
      obtain ⟨k, hk, hg, rfl, HE, HA⟩ := hrel
      have hE0 := HE.out
      by_cases hlt : k < cols.length
      · have hltz : (k : Int) < (cols.length : Int) := by omega
        obtain ⟨x, hx⟩ : ∃ x, cols[k]? = some x := ⟨_, List.getElem?_eq_getElem hlt⟩
        obtain ⟨b, o, c', hv, hb, hxi, e0⟩ := HR.out.val hx
        injection hv with hA _ hcc
        subst hA
        replace e0 := HE.out.cell e0
        have HX := As.mk hx
        have hxi1 := hxi.1
        have hxi2 := hxi.2
        clear hx hcc hxi
        by_cases hin : 0 ≤ x ∧ x < width
        · obtain ⟨h0, h1⟩ := hin
          have h0b : decide (0 ≤ x) = true := decide_eq_true h0
          have h1b : decide (x < width) = true := decide_eq_true h1
          go_wp2_with (go_at_call 138; refine (must_yes _).mono ?_; rintro e w' ⟨rfl, rfl⟩)
          go_roundg (cols.length - (k + 1))
          case measure => omega
          case rel => exact ⟨k + 1, by omega, by omega, by go_num, ⟨(by repeat (first | (with_reducible exact Ext.refl _) | (with_reducible assumption) | (with_reducible apply Ext.alloc) | (with_reducible apply Ext.drewN) | (with_reducible apply Ext.drew) | (with_reducible apply Ext.grow) | (with_reducible refine Ext.trans ?_ (by with_reducible assumption))))⟩, ⟨fun i c hi hc => by
            by_cases e : i = k
            · subst e; rw [HX.out] at hc; injection hc with hc; subst hc; exact ⟨h0, h1⟩
            · exact HA.out i c (by omega) hc⟩⟩
        · have HF : As (colsIn cols width = false) := ⟨colsIn_no HX.out hin⟩
          by_cases h0 : 0 ≤ x
          · have h1 : ¬ x < width := fun h => hin ⟨h0, h⟩
            have h0b : decide (0 ≤ x) = true := decide_eq_true h0
            have h1b : decide (x < width) = false := decide_eq_false h1
            go_wp2_with (go_at_call 138; refine (must_no _).mono ?_; rintro e w' ⟨rfl, rfl⟩)
            exact ⟨rfl, MustPost.no HF.out (by repeat (first | (with_reducible exact Ext.refl _) | (with_reducible assumption) | (with_reducible apply Ext.alloc) | (with_reducible apply Ext.drewN) | (with_reducible apply Ext.drew) | (with_reducible apply Ext.grow) | (with_reducible refine Ext.trans ?_ (by with_reducible assumption))))⟩
          · have h0b : decide (0 ≤ x) = false := decide_eq_false h0
            go_wp2_with (go_at_call 138; refine (must_no _).mono ?_; rintro e w' ⟨rfl, rfl⟩)
            exact ⟨rfl, MustPost.no HF.out (by repeat (first | (with_reducible exact Ext.refl _) | (with_reducible assumption) | (with_reducible apply Ext.alloc) | (with_reducible apply Ext.drewN) | (with_reducible apply Ext.drew) | (with_reducible apply Ext.grow) | (with_reducible refine Ext.trans ?_ (by with_reducible assumption))))⟩
      · have hltz : ¬ (k : Int) < (cols.length : Int) := by omega
        go_wp2_with fail
        go_end0
        exact MustPost.yes (colsIn_yes (by omega) fun i c hc => HA.out i c (by have := (List.getElem?_eq_some_iff.1 hc).1; omega) hc) HE.out
/-- A slice's head. -/
structure GSl where
  a : Option Addr
  l : Nat
  c : Nat
def GSl.v (s : GSl) : Value := .slice s.a s.l s.c
/-- api.Node as it is handed over; its lists are told elsewhere. -/
structure GNd where
  op : Int
  a : Int
  b : Int
  n : Int
  name : ByteArray
  anti : Bool
  cols : GSl
  others : GSl
  kids : GSl
  exprs : GSl
  aggs : GSl
  ords : GSl
  defs : GSl
def GNd.cells (x : GNd) : List Value := [.int .i64 x.op, .int .i64 x.a, .int .i64 x.b, .int .i64 x.n, .string x.name, .bool x.anti, x.cols.v, x.others.v, x.kids.v, x.exprs.v, x.aggs.v, x.ords.v, x.defs.v]
theorem lists_in (a b : Int) (n m k : Int) (name : ByteArray) (anti : Bool) (A1 A2 A3 A4 A5 A6 A7 : Option Addr) (l1 c1 l2 c2 l3 c3 l4 c4 l5 c5 l6 c6 l7 c7 : Nat) (w : World) :
    Calls Tryz.prog 141 #[.agg #[.int .i64 1, .int .i64 n, .int .i64 m, .int .i64 k, .string name, .bool anti, .slice A1 l1 c1, .slice A2 l2 c2, .slice A3 l3 c3, .slice A4 l4 c4, .slice A5 l5 c5, .slice A6 l6 c6, .slice A7 l7 c7], .int .i64 a, .int .i64 b] w (MustPost true w) := by
  go_enter Tryz.func141, Tryz.ntmps141
  go_wp2_with fail
  go_end0
  exact MustPost.yes rfl (by repeat (first | (with_reducible exact Ext.refl _) | (with_reducible assumption) | (with_reducible apply Ext.alloc) | (with_reducible apply Ext.drewN) | (with_reducible apply Ext.drew) | (with_reducible apply Ext.grow) | (with_reducible refine Ext.trans ?_ (by with_reducible assumption))))
/-- What a join's lists must be. -/
def joinIn (cols others : List Int) (a b : Int) : Bool := decide (cols.length = others.length) && colsIn cols a && colsIn others b
set_option maxRecDepth 100000 in
set_option maxHeartbeats 2000000 in
theorem lists_join (a b : Int) (n m k : Int) (name : ByteArray) (anti : Bool) (A1 A2 A3 A4 A5 A6 A7 : Option Addr) (c1 c2 l3 c3 l4 c4 l5 c5 l6 c6 l7 c7 : Nat) (cols others : List Int) (w : World) (h1 : RdI w AnyB (.slice A1 cols.length c1) cols) (h2 : RdI w AnyB (.slice A2 others.length c2) others) :
    Calls Tryz.prog 141 #[.agg #[.int .i64 5, .int .i64 n, .int .i64 m, .int .i64 k, .string name, .bool anti, .slice A1 cols.length c1, .slice A2 others.length c2, .slice A3 l3 c3, .slice A4 l4 c4, .slice A5 l5 c5, .slice A6 l6 c6, .slice A7 l7 c7], .int .i64 a, .int .i64 b] w (MustPost (joinIn cols others a b) w) := by
  have hl1 := h1.len
  have hl2 := h2.len
  have q1 := fun W (hE : Ext w W) => columns_any _ cols a W (h1.ext hE.below)
  have q2 := fun W (hE : Ext w W) => columns_any _ others b W (h2.ext hE.below)
  clear h1 h2
  unfold joinIn
  by_cases he : cols.length = others.length
  · have hez : ((cols.length : Int) == (others.length : Int)) = true := by rw [beq_iff_eq, he]
    have hez2 : (cols.length == others.length) = true := by rw [beq_iff_eq]; exact he
    rw [decide_eq_true he, Bool.true_and]
    cases hc1 : colsIn cols a with
    | false =>
      rw [hc1] at q1
      clear hc1 q2 he
      go_enter Tryz.func141, Tryz.ntmps141
      go_wp2_with (go_at_call 138; refine (must_yes _).mono ?_; rintro e w' ⟨rfl, rfl⟩)
      refine (q1 _ (by repeat (first | (with_reducible exact Ext.refl _) | (with_reducible assumption) | (with_reducible apply Ext.alloc) | (with_reducible apply Ext.drewN) | (with_reducible apply Ext.drew) | (with_reducible apply Ext.grow) | (with_reducible refine Ext.trans ?_ (by with_reducible assumption))))).mono ?_
      rintro e w1 ⟨hE, hp⟩
      rw [if_neg (by simp)] at hp
      subst hp
      go_wp2_with fail
      exact ⟨rfl, MustPost.no rfl (by repeat (first | (with_reducible exact Ext.refl _) | (with_reducible assumption) | (with_reducible apply Ext.alloc) | (with_reducible apply Ext.drewN) | (with_reducible apply Ext.drew) | (with_reducible apply Ext.grow) | (with_reducible refine Ext.trans ?_ (by with_reducible assumption))))⟩
    | true =>
      rw [hc1] at q1
      cases hc2 : colsIn others b with
      | false =>
        rw [hc2] at q2
        clear hc1 hc2 he
        go_enter Tryz.func141, Tryz.ntmps141
        go_wp2_with (go_at_call 138; refine (must_yes _).mono ?_; rintro e w' ⟨rfl, rfl⟩)
        refine (q1 _ (by repeat (first | (with_reducible exact Ext.refl _) | (with_reducible assumption) | (with_reducible apply Ext.alloc) | (with_reducible apply Ext.drewN) | (with_reducible apply Ext.drew) | (with_reducible apply Ext.grow) | (with_reducible refine Ext.trans ?_ (by with_reducible assumption))))).mono ?_
        rintro e w1 ⟨hE, hp⟩
        rw [if_pos rfl] at hp
        subst hp
        have k7 := Ext.cell hE (a := ⟨w.heap.size, 7, none⟩) (v := .slice A2 others.length c2) (by simp)
        clear q1
        go_wp2_with fail
        refine (q2 _ (by repeat (first | (with_reducible exact Ext.refl _) | (with_reducible assumption) | (with_reducible apply Ext.alloc) | (with_reducible apply Ext.drewN) | (with_reducible apply Ext.drew) | (with_reducible apply Ext.grow) | (with_reducible refine Ext.trans ?_ (by with_reducible assumption))))).mono ?_
        rintro e w2 ⟨hE2, hp⟩
        rw [if_neg (by simp)] at hp
        subst hp
        go_wp2_with fail
        exact ⟨rfl, MustPost.no rfl (by repeat (first | (with_reducible exact Ext.refl _) | (with_reducible assumption) | (with_reducible apply Ext.alloc) | (with_reducible apply Ext.drewN) | (with_reducible apply Ext.drew) | (with_reducible apply Ext.grow) | (with_reducible refine Ext.trans ?_ (by with_reducible assumption))))⟩
      | true =>
        rw [hc2] at q2
        clear hc1 hc2 he
        go_enter Tryz.func141, Tryz.ntmps141
        go_wp2_with (go_at_call 138; refine (must_yes _).mono ?_; rintro e w' ⟨rfl, rfl⟩)
        refine (q1 _ (by repeat (first | (with_reducible exact Ext.refl _) | (with_reducible assumption) | (with_reducible apply Ext.alloc) | (with_reducible apply Ext.drewN) | (with_reducible apply Ext.drew) | (with_reducible apply Ext.grow) | (with_reducible refine Ext.trans ?_ (by with_reducible assumption))))).mono ?_
        rintro e w1 ⟨hE, hp⟩
        rw [if_pos rfl] at hp
        subst hp
        have k7 := Ext.cell hE (a := ⟨w.heap.size, 7, none⟩) (v := .slice A2 others.length c2) (by simp)
        clear q1
        go_wp2_with fail
        refine (q2 _ (by repeat (first | (with_reducible exact Ext.refl _) | (with_reducible assumption) | (with_reducible apply Ext.alloc) | (with_reducible apply Ext.drewN) | (with_reducible apply Ext.drew) | (with_reducible apply Ext.grow) | (with_reducible refine Ext.trans ?_ (by with_reducible assumption))))).mono ?_
        rintro e w2 ⟨hE2, hp⟩
        rw [if_pos rfl] at hp
        subst hp
        go_wp2_with fail
        go_end0
        exact MustPost.yes rfl (by repeat (first | (with_reducible exact Ext.refl _) | (with_reducible assumption) | (with_reducible apply Ext.alloc) | (with_reducible apply Ext.drewN) | (with_reducible apply Ext.drew) | (with_reducible apply Ext.grow) | (with_reducible refine Ext.trans ?_ (by with_reducible assumption))))
  · have hez : ((cols.length : Int) == (others.length : Int)) = false := by rw [beq_eq_false_iff_ne]; omega
    have hez2 : (cols.length == others.length) = false := by simpa using he
    rw [decide_eq_false he, Bool.false_and, Bool.false_and]
    clear q1 q2
    go_enter Tryz.func141, Tryz.ntmps141
    go_wp2_with (go_at_call 138; refine (must_no _).mono ?_; rintro e w' ⟨rfl, rfl⟩)
    exact ⟨rfl, MustPost.no rfl (by repeat (first | (with_reducible exact Ext.refl _) | (with_reducible assumption) | (with_reducible apply Ext.alloc) | (with_reducible apply Ext.drewN) | (with_reducible apply Ext.drew) | (with_reducible apply Ext.grow) | (with_reducible refine Ext.trans ?_ (by with_reducible assumption))))⟩
/-- A node's cells, from place o on. -/
def NdC (W : World) (b o : Nat) (cs : List Value) : Prop := ∀ (j : Nat) (u : Value), cs[j]? = some u → W.cell? ⟨b, o + j, none⟩ = some u
theorem NdC.mv {W W' : World} {b o : Nat} {cs : List Value} (h : NdC W b o cs) (hb : ∀ k, W'.cell? ⟨b, k, none⟩ = W.cell? ⟨b, k, none⟩) : NdC W' b o cs := fun j u hj => (hb _).trans (h j u hj)
/-- What lies below. -/
def Low (n : Nat) : Blk := fun k _ => k < n
/-- What stands under a name: a node that takes from outside. -/
def inNode (name : ByteArray) (n : Int) : List Value := [.int .i64 1, .int .i64 0, .int .i64 0, .int .i64 n, .string name, .bool false, .slice none 0 0, .slice none 0 0, .slice none 0 0, .slice none 0 0, .slice none 0 0, .slice none 0 0, .slice none 0 0]
/-- Whether a join's plan is one. -/
def joinOk (cols others : List Int) (a b : Int) : Bool := decide (0 ≤ a) && decide (a ≤ 1024) && (decide (0 ≤ b) && decide (b ≤ 1024)) && joinIn cols others a b && decide (a + b ≤ 1024)
theorem tag_eq' {w : World} {k : Nat} {a c : Array Value} {T T' : TypeId} {f f' : Nat × Nat} (h : w.heap[k]? = some (.cells a T f)) (h' : w.heap[k]? = some (.cells c T' f')) : T = T' := by
  rw [h] at h'
  injection h' with h'
  injection h' with _ h2 _
def WidthsPost (base : Nat) (ok : Bool) (a b : Int) (w : World) (e : Ending) (w' : World) : Prop := Below base w w' ∧ if ok = true then ∃ A c, e = .returned (.slice A 3 c) ∧ RdI w' AnyB (.slice A 3 c) [a, b, a + b] else e = .panicked gaveUp
theorem WidthsPost.no {base : Nat} {ok : Bool} {a b : Int} {w w' : World} (h : ok = false) (hB : Below base w w') : WidthsPost base ok a b w (.panicked gaveUp) w' := ⟨hB, by rw [if_neg (by rw [h]; simp)]⟩
/-- What stands behind k nodes. -/
def WSt (cols others : List Int) (a b : Int) (k : Nat) (outs : List Int) : Prop :=
  (k = 0 ∧ outs = []) ∨ (k = 1 ∧ outs = [a] ∧ 0 ≤ a ∧ a ≤ 1024) ∨ (k = 2 ∧ outs = [a, b] ∧ 0 ≤ a ∧ a ≤ 1024 ∧ 0 ≤ b ∧ b ≤ 1024) ∨ (k = 3 ∧ outs = [a, b, a + b] ∧ joinOk cols others a b = true)
theorem joinOk_a {cols others : List Int} {a b : Int} (h : ¬ (0 ≤ a ∧ a ≤ 1024)) : joinOk cols others a b = false := by
  unfold joinOk
  have : (decide (0 ≤ a) && decide (a ≤ 1024)) = false := by
    rw [Bool.and_eq_false_iff, decide_eq_false_iff_not, decide_eq_false_iff_not]
    omega
  rw [this]; rfl
theorem joinOk_b {cols others : List Int} {a b : Int} (h : ¬ (0 ≤ b ∧ b ≤ 1024)) : joinOk cols others a b = false := by
  unfold joinOk
  have : (decide (0 ≤ b) && decide (b ≤ 1024)) = false := by
    rw [Bool.and_eq_false_iff, decide_eq_false_iff_not, decide_eq_false_iff_not]
    omega
  rw [this, Bool.and_false]; rfl
theorem joinOk_l {cols others : List Int} {a b : Int} (h : joinIn cols others a b = false) : joinOk cols others a b = false := by
  unfold joinOk
  rw [h, Bool.and_false]; rfl
theorem joinOk_s {cols others : List Int} {a b : Int} (h : ¬ a + b ≤ 1024) : joinOk cols others a b = false := by
  unfold joinOk
  rw [decide_eq_false h, Bool.and_false]
set_option maxRecDepth 100000 in
set_option maxHeartbeats 4000000 in
theorem widths_any (base bs bp : Nat) (a b : Int) (n m k : Int) (name : ByteArray) (anti : Bool) (A1 A2 A3 A4 A5 A6 A7 : Option Addr) (c1 c2 l3 c3 l4 c4 l5 c5 l6 c6 l7 c7 : Nat) (cols others : List Int) (w : World)
    (h1 : RdI w (Low base) (.slice A1 cols.length c1) cols) (h2 : RdI w (Low base) (.slice A2 others.length c2) others) (ha : i64 a) (hb : i64 b) (hbs : w.heap[bs]? = some (.cells #[.int .i64 0, .int .i64 0] 152 (0, 0))) (hbase : base ≤ bs) (hne : bp ≠ bs)
    (d0 : NdC w bp 0 (inNode ⟨#[97]⟩ a)) (d1 : NdC w bp 13 (inNode ⟨#[98]⟩ b)) (d2 : NdC w bp 26 [.int .i64 5, .int .i64 0, .int .i64 1, .int .i64 k, .string name, .bool anti, .slice A1 cols.length c1, .slice A2 others.length c2, .slice A3 l3 c3, .slice A4 l4 c4, .slice A5 l5 c5, .slice A6 l6 c6, .slice A7 l7 c7]) :
    Calls Tryz.prog 83 #[.pointer (some ⟨bs, 0, none⟩), .slice (some ⟨bp, 0, none⟩) 3 3, .int .i64 (-1)] w (WidthsPost base (joinOk cols others a b) a b w) := by
  have HR1 := As.mk h1
  have HR2 := As.mk h2
  have HD0 := As.mk d0
  have HD1 := As.mk d1
  have HD2 := As.mk d2
  have hslt := (Array.getElem?_eq_some_iff.1 hbs).1
  have s0 : w.cell? ⟨bs, 0, none⟩ = some (.int .i64 0) := by rw [Lib.cell_of_heap hbs]; rfl
  have z0 := Lib.frozen_of_heap hbs 0
  have HBS := As.mk hbs
  clear h1 h2 d0 d1 d2 hbs
  have hmk : ∀ W : World, (Instr.makeSlice 22 (.int .i64 0) (.int .i64 3)).run Tryz.prog W = .ok (.slice (some ⟨W.heap.size, 0, none⟩) 0 3) (W.alloc (.cells #[.int .i64 0, .int .i64 0, .int .i64 0] 3)) := fun _ => by kernel_rfl
  have HW0 : As (Below base w (w.setCell ⟨bs, 0, none⟩ (.int .i64 3))) := ⟨(Below.refl _ _).setCell (p := ⟨bs, 0, none⟩) hbase _⟩
  have HF : As (∀ b k, b ≠ bs → (w.setCell ⟨bs, 0, none⟩ (.int .i64 3)).cell? ⟨b, k, none⟩ = w.cell? ⟨b, k, none⟩) := ⟨fun b k h => World.cell?_setCell_other _ _ _ _ (fun e => h (by injection e with h1; exact h1.symm))⟩
  have HST : As (Stays w (w.setCell ⟨bs, 0, none⟩ (.int .i64 3)) (Low base) (Low base)) := ⟨Stays.set _ (fun t cells fr hh ho => by have h3 : bs < base := ho; omega) _⟩
  have HWS : As ((w.setCell ⟨bs, 0, none⟩ (.int .i64 3)).heap.size = w.heap.size) := ⟨by simp⟩
  have hplt : bp < w.heap.size := World.block_lt_of_cell? w _ (HD0.out 0 _ rfl)
  go_enter Tryz.func83, Tryz.ntmps83
  go_wp2_with (go_at_call 138; refine (must_yes _).mono ?_; rintro e w' ⟨rfl, rfl⟩)
  generalize w.setCell ⟨bs, 0, none⟩ (.int .i64 3) = wo at *
  rw [← HWS.out] at hplt hslt
  rw [← HWS.out]
  have HBO := As.mk (Nat.le_trans hbase (Nat.le_of_lt hslt))
  go_loopg [38, 7, 8, 9, 10, 11, 12] 3 (fun g s38 s7 _ _ _ _ _ wr => ∃ (k : Nat) (outs : List Int), 3 - k ≤ g ∧ s38 = .int .i64 k ∧ As (OwnL 1 EI 3 wr wo.heap.size s7 outs) ∧ As (Below wo.heap.size wo wr) ∧ WSt cols others a b k outs)
  case atStart => exact ⟨0, [], by omega, by go_num, ⟨OwnL.made 1 EI 3 wo wo.heap.size _ 3 (Nat.le_refl _) (by decide) rfl⟩, ⟨(Below.refl _ _).alloc (Nat.le_refl _) _⟩, .inl ⟨rfl, rfl⟩⟩
  case round =>
    obtain ⟨kk, outs, hg, rfl, HO, HB, hst⟩ := hrel
    have HN : As (∀ k, wr.cell? ⟨bp, k, none⟩ = w.cell? ⟨bp, k, none⟩) := ⟨fun k => (HB.out.cell (p := ⟨bp, k, none⟩) hplt).trans (HF.out bp k hne)⟩
    have hwz := HB.out.size
    rcases hst with ⟨rfl, rfl⟩ | ⟨rfl, rfl, ha0, ha1⟩ | ⟨rfl, rfl, ha0, ha1, hb0, hb1⟩ | ⟨rfl, rfl, hok⟩
    · have hD := HD0.out.mv HN.out
      have f0 := hD 0 _ rfl; have f1 := hD 1 _ rfl; have f2 := hD 2 _ rfl; have f3 := hD 3 _ rfl; have f4 := hD 4 _ rfl; have f5 := hD 5 _ rfl; have f6 := hD 6 _ rfl; have f7 := hD 7 _ rfl; have f8 := hD 8 _ rfl; have f9 := hD 9 _ rfl; have f10 := hD 10 _ rfl; have f11 := hD 11 _ rfl; have f12 := hD 12 _ rfl
      simp only [Nat.zero_add, Nat.add_zero, Nat.reduceAdd] at f0 f1 f2 f3 f4 f5 f6 f7 f8 f9 f10 f11 f12
      clear hD
      go_wp2_with (first | (go_at_call 139; refine (takesA_any _ _).mono ?_; rintro e w' ⟨rfl, rfl⟩) | (go_at_call 140; refine (takesB_any _ _).mono ?_; rintro e w' ⟨rfl, rfl⟩))
      refine (lists_in _ _ _ _ _ _ _ _ _ _ _ _ _ _ _ _ _ _ _ _ _ _ _ _ _ _ _ _ _).mono ?_
      rintro e w1 ⟨hE, hp⟩
      rw [if_pos rfl] at hp
      subst hp
      have e0 := Ext.cell hE (a := ⟨wr.heap.size, 0, none⟩) (v := .int .i64 1) (by simp)
      have e3 := Ext.cell hE (a := ⟨wr.heap.size, 3, none⟩) (v := .int .i64 a) (by simp)
      have e4 := Ext.cell hE (a := ⟨wr.heap.size, 4, none⟩) (v := .string ⟨#[97]⟩) (by simp)
      have hE2 := Ext.trans (Ext.alloc (Ext.refl wr) _) hE
      have HO1 := As.mk (HO.out.ext hE2)
      have HB1 : As (Below wo.heap.size wo w1) := ⟨HB.out.trans (hE2.below.mono hwz)⟩
      have hbz := HB1.out.size
      have HLZ : As (([] : List Int).length < 4294967296) := ⟨by simp⟩
      clear hE hE2 f0 f1 f2 f3 f4 f5 f6 f7 f8 f9 f10 f11 f12
      by_cases hr : 0 ≤ a ∧ a ≤ 1024
      · obtain ⟨hr0, hr1⟩ := hr
        have hr0b : decide (0 ≤ a) = true := decide_eq_true hr0
        have hr1b : decide (a ≤ 1024) = true := decide_eq_true hr1
        go_wp2_with (first | (go_at_call 138; (with_reducible refine (must_yes _).mono ?_); rintro e w' ⟨rfl, rfl⟩) | (at_builtin; go_loud (refine OwnL.append (W := w1) wo.heap.size rfl (.tmp 161) (.tmp 163) 22 3 _ 1 8 rfl Tryz.underlying22 info_int rfl (by decide) (by decide) u7 [] a [.int .i64 (a)] rfl rfl (E := EI) ⟨rfl, ha⟩ rfl (by simp [Value.oneCell']) HO1.out HB1.out hbz HLZ.out rfl ?_); intro v2 w2 hown hb' hg' hat; have HO2 := As.mk hown; have HB2 := As.mk hb'; clear hown hb' hg' hat))
        go_roundg 2
        case measure => omega
        case rel => exact ⟨1, _, by omega, by go_num, HO2, HB2, .inr (.inl ⟨rfl, rfl, hr0, hr1⟩)⟩
      · have HF2 : As (joinOk cols others a b = false) := ⟨joinOk_a hr⟩
        by_cases hr0 : 0 ≤ a
        · have hr1 : ¬ a ≤ 1024 := fun h => hr ⟨hr0, h⟩
          have hr0b : decide (0 ≤ a) = true := decide_eq_true hr0
          have hr1b : decide (a ≤ 1024) = false := decide_eq_false hr1
          go_wp2_with (first | (go_at_call 138; (with_reducible refine (must_yes _).mono ?_); rintro e w' ⟨rfl, rfl⟩) | (go_at_call 138; (with_reducible refine (must_no _).mono ?_); rintro e w' ⟨rfl, rfl⟩))
          exact ⟨rfl, WidthsPost.no HF2.out (HW0.out.trans (HB1.out.mono HBO.out))⟩
        · have hr0b : decide (0 ≤ a) = false := decide_eq_false hr0
          go_wp2_with (first | (go_at_call 138; (with_reducible refine (must_yes _).mono ?_); rintro e w' ⟨rfl, rfl⟩) | (go_at_call 138; (with_reducible refine (must_no _).mono ?_); rintro e w' ⟨rfl, rfl⟩))
          exact ⟨rfl, WidthsPost.no HF2.out (HW0.out.trans (HB1.out.mono HBO.out))⟩
    · have hD := HD1.out.mv HN.out
      have f0 := hD 0 _ rfl; have f1 := hD 1 _ rfl; have f2 := hD 2 _ rfl; have f3 := hD 3 _ rfl; have f4 := hD 4 _ rfl; have f5 := hD 5 _ rfl; have f6 := hD 6 _ rfl; have f7 := hD 7 _ rfl; have f8 := hD 8 _ rfl; have f9 := hD 9 _ rfl; have f10 := hD 10 _ rfl; have f11 := hD 11 _ rfl; have f12 := hD 12 _ rfl
      simp only [Nat.zero_add, Nat.add_zero, Nat.reduceAdd] at f0 f1 f2 f3 f4 f5 f6 f7 f8 f9 f10 f11 f12
      clear hD
      go_wp2_with (first | (go_at_call 139; refine (takesA_any _ _).mono ?_; rintro e w' ⟨rfl, rfl⟩) | (go_at_call 140; refine (takesB_any _ _).mono ?_; rintro e w' ⟨rfl, rfl⟩))
      refine (lists_in _ _ _ _ _ _ _ _ _ _ _ _ _ _ _ _ _ _ _ _ _ _ _ _ _ _ _ _ _).mono ?_
      rintro e w1 ⟨hE, hp⟩
      rw [if_pos rfl] at hp
      subst hp
      have e0 := Ext.cell hE (a := ⟨wr.heap.size, 0, none⟩) (v := .int .i64 1) (by simp)
      have e3 := Ext.cell hE (a := ⟨wr.heap.size, 3, none⟩) (v := .int .i64 b) (by simp)
      have e4 := Ext.cell hE (a := ⟨wr.heap.size, 4, none⟩) (v := .string ⟨#[98]⟩) (by simp)
      have hE2 := Ext.trans (Ext.alloc (Ext.refl wr) _) hE
      have HO1 := As.mk (HO.out.ext hE2)
      have HB1 : As (Below wo.heap.size wo w1) := ⟨HB.out.trans (hE2.below.mono hwz)⟩
      have hbz := HB1.out.size
      have HLZ : As (([a] : List Int).length < 4294967296) := ⟨by simp⟩
      clear hE hE2 f0 f1 f2 f3 f4 f5 f6 f7 f8 f9 f10 f11 f12
      by_cases hr : 0 ≤ b ∧ b ≤ 1024
      · obtain ⟨hr0, hr1⟩ := hr
        have hr0b : decide (0 ≤ b) = true := decide_eq_true hr0
        have hr1b : decide (b ≤ 1024) = true := decide_eq_true hr1
        go_wp2_with (first | (go_at_call 138; (with_reducible refine (must_yes _).mono ?_); rintro e w' ⟨rfl, rfl⟩) | (at_builtin; go_loud (refine OwnL.append (W := w1) wo.heap.size rfl (.tmp 161) (.tmp 163) 22 3 _ 1 8 rfl Tryz.underlying22 info_int rfl (by decide) (by decide) u7 [a] b [.int .i64 (b)] rfl rfl (E := EI) ⟨rfl, hb⟩ rfl (by simp [Value.oneCell']) HO1.out HB1.out hbz HLZ.out rfl ?_); intro v2 w2 hown hb' hg' hat; have HO2 := As.mk hown; have HB2 := As.mk hb'; clear hown hb' hg' hat))
        go_roundg 1
        case measure => omega
        case rel => exact ⟨2, _, by omega, by go_num, HO2, HB2, .inr (.inr (.inl ⟨rfl, rfl, ha0, ha1, hr0, hr1⟩))⟩
      · have HF2 : As (joinOk cols others a b = false) := ⟨joinOk_b hr⟩
        by_cases hr0 : 0 ≤ b
        · have hr1 : ¬ b ≤ 1024 := fun h => hr ⟨hr0, h⟩
          have hr0b : decide (0 ≤ b) = true := decide_eq_true hr0
          have hr1b : decide (b ≤ 1024) = false := decide_eq_false hr1
          go_wp2_with (first | (go_at_call 138; (with_reducible refine (must_yes _).mono ?_); rintro e w' ⟨rfl, rfl⟩) | (go_at_call 138; (with_reducible refine (must_no _).mono ?_); rintro e w' ⟨rfl, rfl⟩))
          exact ⟨rfl, WidthsPost.no HF2.out (HW0.out.trans (HB1.out.mono HBO.out))⟩
        · have hr0b : decide (0 ≤ b) = false := decide_eq_false hr0
          go_wp2_with (first | (go_at_call 138; (with_reducible refine (must_yes _).mono ?_); rintro e w' ⟨rfl, rfl⟩) | (go_at_call 138; (with_reducible refine (must_no _).mono ?_); rintro e w' ⟨rfl, rfl⟩))
          exact ⟨rfl, WidthsPost.no HF2.out (HW0.out.trans (HB1.out.mono HBO.out))⟩
    · have hD := HD2.out.mv HN.out
      have f0 := hD 0 _ rfl; have f1 := hD 1 _ rfl; have f2 := hD 2 _ rfl; have f3 := hD 3 _ rfl; have f4 := hD 4 _ rfl; have f5 := hD 5 _ rfl; have f6 := hD 6 _ rfl; have f7 := hD 7 _ rfl; have f8 := hD 8 _ rfl; have f9 := hD 9 _ rfl; have f10 := hD 10 _ rfl; have f11 := hD 11 _ rfl; have f12 := hD 12 _ rfl
      simp only [Nat.zero_add, Nat.add_zero, Nat.reduceAdd] at f0 f1 f2 f3 f4 f5 f6 f7 f8 f9 f10 f11 f12
      clear hD
      have hrd : RdI wr AnyB u7 [a, b] := HO.out.rd fun _ _ => trivial
      obtain ⟨bo, oo, co, hv, hbo, _, g0⟩ := hrd.val (j := 0) (x := a) rfl
      obtain ⟨bo', oo', co', hv', _, _, g1⟩ := hrd.val (j := 1) (x := b) rfl
      subst hv
      injection hv' with h1 _ h3
      injection h1 with h1
      injection h1 with h1 h2 _
      subst h1 h2 h3
      simp only [Nat.add_zero] at g0 g1
      have hRA : RdI wr AnyB (.slice A1 cols.length c1) cols := ((HR1.out.mv HST.out).mv (fun k t cells fr ho hh => ⟨ho, (HB.out.block k (Nat.lt_of_lt_of_le ho.1 HBO.out)).trans hh⟩)).mv (Stays.any _ _)
      have hRB : RdI wr AnyB (.slice A2 others.length c2) others := ((HR2.out.mv HST.out).mv (fun k t cells fr ho hh => ⟨ho, (HB.out.block k (Nat.lt_of_lt_of_le ho.1 HBO.out)).trans hh⟩)).mv (Stays.any _ _)
      have hLJ := fun W (hE : Ext wr W) => lists_join a b 0 1 k name anti A1 A2 A3 A4 A5 A6 A7 c1 c2 l3 c3 l4 c4 l5 c5 l6 c6 l7 c7 cols others W (hRA.ext hE.below) (hRB.ext hE.below)
      have HLJ := As.mk hLJ
      clear hLJ hRA hRB hrd
      go_wp2_with (first | (go_at_call 139; refine (takesA_any _ _).mono ?_; rintro e w' ⟨rfl, rfl⟩) | (go_at_call 140; refine (takesB_any _ _).mono ?_; rintro e w' ⟨rfl, rfl⟩) | (go_at_call 138; (with_reducible refine (must_yes _).mono ?_); rintro e w' ⟨rfl, rfl⟩))
      refine (HLJ.out _ (Ext.alloc (Ext.refl _) _)).mono ?_
      rintro e w1 ⟨hE, hp⟩
      have hE2 := Ext.trans (Ext.alloc (Ext.refl wr) _) hE
      have HB1 : As (Below wo.heap.size wo w1) := ⟨HB.out.trans (hE2.below.mono hwz)⟩
      have e0 := Ext.cell hE (a := ⟨wr.heap.size, 0, none⟩) (v := .int .i64 5) (by simp)
      have HO1 := As.mk (HO.out.ext hE2)
      have hbz := HB1.out.size
      have HLZ : As (([a, b] : List Int).length < 4294967296) := ⟨by simp⟩
      have HIS : As (i64 (a + b)) := ⟨by unfold i64; omega⟩
      clear hE hE2 HLJ f0 f1 f2 f3 f4 f5 f6 f7 f8 f9 f10 f11 f12 g0 g1
      cases hj : joinIn cols others a b with
      | false =>
        rw [hj, if_neg (by simp)] at hp
        subst hp
        have HF2 := As.mk (joinOk_l hj)
        clear hj
        go_wp2_with fail
        exact ⟨rfl, WidthsPost.no HF2.out (HW0.out.trans (HB1.out.mono HBO.out))⟩
      | true =>
        rw [hj, if_pos rfl] at hp
        subst hp
        have hs0 : 0 ≤ a + b := by omega
        have hs0b : decide (0 ≤ a + b) = true := decide_eq_true hs0
        by_cases hs1 : a + b ≤ 1024
        · have hs1b : decide (a + b ≤ 1024) = true := decide_eq_true hs1
          have HJO : As (joinOk cols others a b = true) := ⟨by
            unfold joinOk
            rw [hj, decide_eq_true ha0, decide_eq_true ha1, decide_eq_true hb0, decide_eq_true hb1, hs1b]; rfl⟩
          clear hj
          go_wp2_with (first | (go_at_call 138; (with_reducible refine (must_yes _).mono ?_); rintro e w' ⟨rfl, rfl⟩) | (at_builtin; go_loud (refine OwnL.append (W := w1) wo.heap.size rfl (.tmp 161) (.tmp 163) 22 3 _ 1 8 rfl Tryz.underlying22 info_int rfl (by decide) (by decide) (.slice (some ⟨bo, oo, none⟩) 2 co) [a, b] (a + b) [.int .i64 (a + b)] rfl rfl (E := EI) ⟨rfl, HIS.out⟩ rfl (by simp [Value.oneCell']) HO1.out HB1.out hbz HLZ.out rfl ?_); intro v2 w2 hown hb' hg' hat; have HO2 := As.mk hown; have HB2 := As.mk hb'; clear hown hb' hg' hat))
          go_roundg 0
          case measure => omega
          case rel => exact ⟨3, _, by omega, by go_num, HO2, HB2, .inr (.inr (.inr ⟨rfl, rfl, HJO.out⟩))⟩
        · have HF2 := As.mk (joinOk_s (cols := cols) (others := others) hs1)
          have hs1b : decide (a + b ≤ 1024) = false := decide_eq_false hs1
          clear hj
          go_wp2_with (first | (go_at_call 138; (with_reducible refine (must_yes _).mono ?_); rintro e w' ⟨rfl, rfl⟩) | (go_at_call 138; (with_reducible refine (must_no _).mono ?_); rintro e w' ⟨rfl, rfl⟩))
          exact ⟨rfl, WidthsPost.no HF2.out (HW0.out.trans (HB1.out.mono HBO.out))⟩
    · obtain ⟨A9, c9, rfl, _⟩ := HO.out.shape
      have HRF : As (RdI wr AnyB (.slice A9 3 c9) [a, b, a + b]) := ⟨HO.out.rd fun _ _ => trivial⟩
      go_wp2_with fail
      go_ret
      exact ⟨HW0.out.trans (HB.out.mono HBO.out), by rw [if_pos hok]; exact ⟨A9, c9, rfl, HRF.out⟩⟩
end Go.Proofs.YtflckpfpgpfjlaaGreatDoor
end
section
namespace Go.Proofs.YtflckpfpgpfjlaaGreatDoor
open Go.RowKit Go.Sort
theorem assert_yes (w : World) : (Instr.typeAssert (.iface 148 (.agg #[])) 20 148 true).run Tryz.prog w = .ok (.tuple #[.agg #[], .bool true]) w := by kernel_rfl
theorem assert_no (w : World) : (Instr.typeAssert .nilIface 20 148 true).run Tryz.prog w = .ok (.tuple #[.agg #[], .bool false]) w := by kernel_rfl
set_option maxRecDepth 100000 in
theorem catch_panicking (p : Addr) (x : Int) (older : List PanicEntry) (w : World) (hc : w.cell? p = some (.int .i64 x)) (hz : w.frozen? p = false) :
    CallsD Tryz.prog 82 #[.pointer (some p)] (.panicking ({ v := .iface 148 (.agg #[]), recovered := false } :: older)) w fun e u' w' =>
      e = .returned (.tuple #[]) ∧ u' = .panicking ({ v := .iface 148 (.agg #[]), recovered := true } :: older) ∧ w' = (w.alloc (.cells #[] 148)).setCell p (.int .i64 (-1)) := by
  have hlt := World.block_lt_of_cell? w _ hc
  have hc' : (w.alloc (.cells #[] 148)).cell? p = some (.int .i64 x) := Ext.cell (Ext.alloc (Ext.refl w) _) hc
  have hz' : (w.alloc (.cells #[] 148)).frozen? p = false := by rw [(Ext.alloc (Ext.refl w) _).below.frozen hlt]; exact hz
  refine callsD_of_wpS Tryz.func82 rfl fun c₀ cs hu => ?_
  apply wpS_seq
  apply wpS_region
  simp [wpOpsS, go_sem, recoverD, hu, Tryz.ntmps82, Exit.thenS, assert_yes, assert_no]
  apply wpS_seq
  apply wpS_region
  simp [wpOpsS, go_sem, Exit.thenS]
  refine wpS_cond (t := true) (by simp [Act.eval, Array.replicate]) ?_
  simp only [if_true]
  apply wpS_region
  simp [wpOpsS, go_sem, hc', hz', bodyPostS, results, Tryz.results82]
set_option maxRecDepth 100000 in
theorem catch_idle (p : Addr) (w : World) :
    CallsD Tryz.prog 82 #[.pointer (some p)] .returning w fun e u' w' => e = .returned (.tuple #[]) ∧ u' = .returning ∧ w' = w.alloc (.cells #[] 148) := by
  refine callsD_of_wpS Tryz.func82 rfl fun c₀ cs hu => ?_
  apply wpS_seq
  apply wpS_region
  simp [wpOpsS, go_sem, recoverD, hu, Tryz.ntmps82, Exit.thenS, assert_yes, assert_no]
  apply wpS_seq
  apply wpS_region
  simp [wpOpsS, go_sem, Exit.thenS]
  refine wpS_cond (t := false) (by simp [Act.eval, Array.replicate]) ?_
  simp only [Bool.false_eq_true, if_false]
  refine wpS_of_wp (wp_skip ?_)
  cases c₀
  simp_all [bodyPostS, results, Tryz.results82]
theorem low_of {w w' : World} {v : Value} {r : List Int} {n : Nat} (h : RdI w AnyB v r) (hE : Ext w w') (hn : w.heap.size ≤ n) : RdI w' (Low n) v r :=
  RdI.ext (h.mv fun k t cells fr ho hh => ⟨⟨show k < n from Nat.lt_of_lt_of_le (Array.getElem?_eq_some_iff.1 hh).1 hn, .inr (show k < n from Nat.lt_of_lt_of_le (Array.getElem?_eq_some_iff.1 hh).1 hn)⟩, hh⟩) hE.below
def widthN (cols others : List Int) (a b : Int) : Int := if joinOk cols others a b = true then a + b else -1
set_option maxRecDepth 100000 in
set_option maxHeartbeats 2000000 in
theorem width_any (bp : Nat) (a b : Int) (k : Int) (name : ByteArray) (anti : Bool) (A1 A2 A3 A4 A5 A6 A7 : Option Addr) (c1 c2 l3 c3 l4 c4 l5 c5 l6 c6 l7 c7 : Nat) (cols others : List Int) (w : World)
    (h1 : RdI w AnyB (.slice A1 cols.length c1) cols) (h2 : RdI w AnyB (.slice A2 others.length c2) others) (ha : i64 a) (hb : i64 b)
    (d0 : NdC w bp 0 (inNode ⟨#[97]⟩ a)) (d1 : NdC w bp 13 (inNode ⟨#[98]⟩ b)) (d2 : NdC w bp 26 [.int .i64 5, .int .i64 0, .int .i64 1, .int .i64 k, .string name, .bool anti, .slice A1 cols.length c1, .slice A2 others.length c2, .slice A3 l3 c3, .slice A4 l4 c4, .slice A5 l5 c5, .slice A6 l6 c6, .slice A7 l7 c7]) :
    Calls Tryz.prog 40 #[.slice (some ⟨bp, 0, none⟩) 3 3] w fun e w' => e = .returned (.int .i64 (widthN cols others a b)) ∧ Below w.heap.size w w' := by
  have hE0 : Ext w ((w.alloc (.cells #[.int .i64 0] 3)).alloc (.cells #[.int .i64 0, .int .i64 0] 152)) := Ext.alloc (Ext.alloc (Ext.refl w) _) _
  have hplt : bp < w.heap.size := World.block_lt_of_cell? w _ (d0 0 _ rfl)
  have hmv : ∀ o cs, NdC w bp o cs → NdC ((w.alloc (.cells #[.int .i64 0] 3)).alloc (.cells #[.int .i64 0, .int .i64 0] 152)) bp o cs := fun o cs h => h.mv fun j => hE0.below.cell (p := ⟨bp, j, none⟩) hplt
  have HWD := As.mk (widths_any (w.heap.size + 1) (w.heap.size + 1) bp a b 0 0 k name anti A1 A2 A3 A4 A5 A6 A7 c1 c2 l3 c3 l4 c4 l5 c5 l6 c6 l7 c7 cols others ((w.alloc (.cells #[.int .i64 0] 3)).alloc (.cells #[.int .i64 0, .int .i64 0] 152))
    (low_of h1 hE0 (by omega)) (low_of h2 hE0 (by omega)) ha hb (by have := heap_alloc_new (w.alloc (.cells #[.int .i64 0] 3)) (.cells #[.int .i64 0, .int .i64 0] 152); simpa using this) (Nat.le_refl _) (by omega) (hmv _ _ d0) (hmv _ _ d1) (hmv _ _ d2))
  have HB0 := As.mk hE0.below
  have hmf : ∀ (fn : Fn) (first cap : Array Value) (w : World), (Instr.makeFunc fn first cap).run Tryz.prog w = .ok (.func fn first cap) w := fun _ _ _ _ => rfl
  clear h1 h2 d0 d1 d2 hmv hE0
  go_enter_defers Tryz.func40, Tryz.ntmps40
  go_wp2_with fail
  refine HWD.out.mono ?_
  rintro e w1 ⟨hB1, hp⟩
  have hr0 : w1.cell? ⟨w.heap.size, 0, none⟩ = some (.int .i64 0) := (hB1.cell (p := ⟨w.heap.size, 0, none⟩) (show w.heap.size < w.heap.size + 1 by omega)).trans (by simp)
  have hrz : w1.frozen? ⟨w.heap.size, 0, none⟩ = false := (hB1.frozen (p := ⟨w.heap.size, 0, none⟩) (show w.heap.size < w.heap.size + 1 by omega)).trans (by simp)
  have HB1 : As (Below w.heap.size w w1) := ⟨HB0.out.trans (hB1.mono (by omega))⟩
  clear HWD HB0 hB1
  cases hj : joinOk cols others a b with
  | false =>
    rw [hj, if_neg (by simp)] at hp
    subst hp
    have HV : As (widthN cols others a b = -1) := ⟨by unfold widthN; rw [hj]; rfl⟩
    clear hj
    go_wp2_with fail
    refine leaves_cons (f := 82) (args := #[.pointer (some ⟨w.heap.size, 0, none⟩)]) (by simp) (by simp [go_sem, gaveUp]) ?_
    refine (catch_panicking ⟨w.heap.size, 0, none⟩ 0 [] w1 hr0 hrz).mono ?_
    rintro e u' w'' ⟨rfl, rfl, rfl⟩
    have hlt := cell_lt hr0
    have q0 := Ext.cell (Ext.alloc (Ext.refl w1) (.cells #[] 148)) hr0
    simp [Leaves, settle, results, Tryz.results40, go_sem]
    have q1 : ((w1.alloc (.cells #[] 148)).setCell ⟨w.heap.size, 0, none⟩ (.int .i64 (-1))).cell? ⟨w.heap.size, 0, none⟩ = some (.int .i64 (-1)) := World.cell?_setCell_same _ _ _ q0
    rw [q1]
    refine ⟨_, rfl, by rw [HV.out], ?_⟩
    exact (HB1.out.trans ((Ext.alloc (Ext.refl w1) _).below.mono HB1.out.size)).setCell (p := ⟨w.heap.size, 0, none⟩) (Nat.le_refl _) _
  | true =>
    rw [hj, if_pos rfl] at hp
    obtain ⟨A9, c9, rfl, hrd⟩ := hp
    have HV : As (widthN cols others a b = a + b) := ⟨by unfold widthN; rw [hj]; rfl⟩
    clear hj
    obtain ⟨b9, o9, c9', hv, hb9, _, g2⟩ := hrd.val (j := 2) (x := a + b) rfl
    injection hv with hA _ hcc
    subst hA hcc
    clear hrd
    go_wp2_with fail
    refine leaves_cons (f := 82) (args := #[.pointer (some ⟨w.heap.size, 0, none⟩)]) (by simp) (by simp [go_sem]) ?_
    refine (catch_idle ⟨w.heap.size, 0, none⟩ _).mono ?_
    rintro e u' w'' ⟨rfl, rfl, rfl⟩
    simp [Leaves, settle, results, Tryz.results40, go_sem]
    have q1 : (w1.setCell ⟨w.heap.size, 0, none⟩ (.int .i64 (a + b))).cell? ⟨w.heap.size, 0, none⟩ = some (.int .i64 (a + b)) := World.cell?_setCell_same _ _ _ hr0
    have hb9 := HB1.out.setCell (p := ⟨w.heap.size, 0, none⟩) (Nat.le_refl _) (.int .i64 (a + b))
    rw [Ext.cell (Ext.alloc (Ext.refl _) (.cells #[] 148)) q1]
    refine ⟨_, rfl, by rw [HV.out], ?_⟩
    exact hb9.trans ((Ext.alloc (Ext.refl _) _).below.mono hb9.size)
end Go.Proofs.YtflckpfpgpfjlaaGreatDoor
end
