/- The walk of the join law's spoil: a list of entries written over; and what that leaves as it was. -/
import Derived.Test.YtflckpfpgpfjlaaGreatDoorMBase
set_option linter.unusedVariables false
set_option linter.unusedSimpArgs false
namespace Go.Proofs.YtflckpfpgpfjlaaGreatDoor
open Go.RowKit Go.Sort
/-- Worlds between which only blocks of P were written. -/
structure Wrote (P : Nat → Prop) (w w' : World) : Prop where
  os : w'.os = w.os
  tape : w'.tape = w.tape
  output : w'.output = w.output
  size : w.heap.size ≤ w'.heap.size
  block : ∀ k, k < w.heap.size → ¬ P k → w'.heap[k]? = w.heap[k]?
section
variable {P Q : Nat → Prop} {w w' w'' : World}
theorem Wrote.refl (P : Nat → Prop) (w : World) : Wrote P w w := ⟨rfl, rfl, rfl, Nat.le_refl _, fun _ _ _ => rfl⟩
theorem Wrote.trans (h : Wrote P w w') (k : Wrote P w' w'') : Wrote P w w'' :=
  ⟨k.os.trans h.os, k.tape.trans h.tape, k.output.trans h.output, Nat.le_trans h.size k.size, fun i hi hp => (k.block i (Nat.lt_of_lt_of_le hi h.size) hp).trans (h.block i hi hp)⟩
theorem Wrote.of (h : Below w.heap.size w w') : Wrote P w w' := ⟨h.os, h.tape, h.output, h.size, fun k hk _ => h.block k hk⟩
theorem Wrote.ofBelow {B : Nat} (h : Below B w w') : Wrote (B ≤ ·) w w' := ⟨h.os, h.tape, h.output, h.size, fun k _ hp => h.block k (by omega)⟩
theorem Wrote.mono (h : Wrote P w w') (hp : ∀ k, P k → Q k) : Wrote Q w w' := ⟨h.os, h.tape, h.output, h.size, fun k hk hq => h.block k hk fun h => hq (hp k h)⟩
theorem Wrote.below (h : Wrote P w w') {B : Nat} (hp : ∀ k, P k → B ≤ k) (hB : B ≤ w.heap.size) : Below B w w' := ⟨h.os, h.tape, h.output, h.size, fun k hk => h.block k (by omega) fun h => by have := hp k h; omega⟩
theorem Wrote.set (h : Wrote P w w') {p : Addr} (hp : P p.block) (u : Value) : Wrote P w (w'.setCell p u) :=
  ⟨h.os, h.tape, h.output, by simpa using h.size, fun k hk hn => by rw [heap_setCell_other _ _ _ _ (fun e => hn (by rw [e]; exact hp))]; exact h.block k hk hn⟩
theorem Wrote.stays (h : Wrote P w w') {ok : Blk} (hp : ∀ k t, P k → ¬ ok k t) : Stays w w' ok ok := fun k t cells fr ho hh =>
  ⟨ho, (h.block k (Array.getElem?_eq_some_iff.1 hh).1 fun hk => hp k t hk ho.1).trans hh⟩
end
def Tru {α : Type} : α → List Value → Prop := fun _ _ => True
theorem RdL.poke {α : Type} {sz : Nat} {w : World} {ok : Blk} {v : Value} {xs : List α} (h : RdL sz Tru w ok v xs) (hs : ∀ k, ¬ ok k FZ) (g p : Nat) (u : Value) (hu : u.oneCell' = true) : RdL sz Tru (w.setCell ⟨g, p, none⟩ u) ok v xs := by
  obtain ⟨A, c, hv, hc, hl, h⟩ := h
  refine ⟨A, c, hv, hc, hl, fun hne => ?_⟩
  obtain ⟨b, o, cells, t, fr, ha, hb, hh, hx⟩ := h hne
  by_cases hg : b = g
  · subst hg
    have hfr : fr = (0, 0) := hb.2.resolve_right (hs b)
    subst hfr
    refine ⟨b, o, _, t, (0, 0), ha, hb, heap_setCell_same w b p cells t u hh, fun j x hj => ?_⟩
    obtain ⟨cs, e1, e2, e3, e4⟩ := hx j x hj
    refine ⟨cs.mapIdx fun i v => if p = o + j * sz + i then u else v, by simp [e1], trivial, fun y hy => ?_, fun i y hi => ?_⟩
    · obtain ⟨i, hi, rfl⟩ := List.mem_mapIdx.1 hy
      split
      · exact hu
      · exact e3 _ (List.getElem_mem _)
    · rw [List.getElem?_mapIdx] at hi
      obtain ⟨v', hv', rfl⟩ := Option.map_eq_some_iff.1 hi
      have h4 := e4 i v' hv'
      rw [Array.getElem?_setIfInBounds]
      split
      · next e =>
        have hlt : p < cells.size := by rw [e]; exact (Array.getElem?_eq_some_iff.1 h4).1
        rw [if_pos hlt]
      · exact h4
  · exact ⟨b, o, cells, t, fr, ha, hb, (heap_setCell_other w ⟨g, p, none⟩ b u hg).trans hh, hx⟩
/-- An entry's cells by their shape alone. -/
def ES (w : World) (ok : Blk) (x : GE) (cs : List Value) : Prop := ∃ v n, cs = [v, .int .i64 n] ∧ RdL 4 Tru w ok v x.row
theorem ES.mv {w w' : World} {ok ok' : Blk} {x : GE} {cs : List Value} (h : ES w ok x cs) (hs : Stays w w' ok ok') : ES w' ok' x cs :=
  let ⟨v, n, h1, h2⟩ := h; ⟨v, n, h1, h2.move (fun _ _ e => e) hs⟩
theorem EE.es {w : World} {ok : Blk} {x : GE} {cs : List Value} (h : EE w ok x cs) : ES w ok x cs :=
  let ⟨v, h1, _, h2⟩ := h; ⟨v, x.w, h1, h2.move (fun _ _ _ => trivial) (Stays.mono fun _ _ h => h)⟩
theorem rdl_cell {α : Type} {sz : Nat} {E : α → List Value → Prop} {w : World} {ok : Blk} {v : Value} {xs : List α} (h : RdL sz E w ok v xs) (hs : ∀ k, ¬ ok k FZ) {j : Nat} {x : α} (hj : xs[j]? = some x) : ∃ b o c t, v = .slice (some ⟨b, o, none⟩) xs.length c ∧ b < w.heap.size ∧ ok b t ∧ (∃ cells, w.heap[b]? = some (.cells cells t (0, 0))) ∧
    ∃ cs : List Value, cs.length = sz ∧ E x cs ∧ ∀ i u, cs[i]? = some u → w.cell? ⟨b, o + j * sz + i, none⟩ = some u := by
  obtain ⟨A, c, hv, hc, hl, h⟩ := h
  obtain ⟨b, o, cells, t, fr, rfl, hb, hh, hx⟩ := h (by rintro rfl; simp at hj)
  have hfr : fr = (0, 0) := hb.2.resolve_right (hs b)
  subst hfr
  obtain ⟨cs, e1, e2, e3, e4⟩ := hx j x hj
  exact ⟨b, o, c, t, hv, (Array.getElem?_eq_some_iff.1 hh).1, hb.1, ⟨cells, hh⟩, cs, e1, e2, fun i u hu => by rw [cell_of_row w b _ cells t (0, 0) hh]; exact e4 i u hu⟩
theorem ents_poke {w : World} {okE okV : Blk} {b o n c : Nat} {z : List GE} (h : RdL 2 (ES w okV) w okE (.slice (some ⟨b, o, none⟩) n c) z) (hs : ∀ k, ¬ okE k FZ) (hd : ∀ t, okE b t → ¬ okV b t) (j : Nat) (m : Int) :
    RdL 2 (ES (w.setCell ⟨b, o + j * 2 + 1, none⟩ (.int .i64 m)) okV) (w.setCell ⟨b, o + j * 2 + 1, none⟩ (.int .i64 m)) okE (.slice (some ⟨b, o, none⟩) n c) z := by
  obtain ⟨A, c', hv, hc, hl, h⟩ := h
  refine ⟨A, c', hv, hc, hl, fun hne => ?_⟩
  obtain ⟨b', o', cells, t, fr, ha, hb, hh, hx⟩ := h hne
  injection hv with hA _ _
  rw [ha] at hA
  injection hA with hA
  injection hA with hA1 hA2 _
  subst hA1 hA2
  have hfr : fr = (0, 0) := hb.2.resolve_right (hs b)
  subst hfr
  refine ⟨b, o, _, t, (0, 0), ha, hb, heap_setCell_same w b _ cells t _ hh, fun i x hi => ?_⟩
  obtain ⟨cs, e1, ⟨v, q, rfl, e2⟩, e3, e4⟩ := hx i x hi
  have hv2 : RdL 4 Tru (w.setCell ⟨b, o + j * 2 + 1, none⟩ (.int .i64 m)) okV v x.row := e2.move (fun _ _ e => e) (Stays.set okV (fun t' cells' fr' h' ho => by
    rw [hh] at h'
    injection h' with h'
    injection h' with _ h2 _
    exact hd t hb.1 (h2 ▸ ho)) _)
  refine ⟨[v, .int .i64 (if i = j then m else q)], rfl, ⟨v, _, rfl, hv2⟩, fun u hu => ?_, fun k u hk => ?_⟩
  · simp only [List.mem_cons, List.not_mem_nil, or_false] at hu
    rcases hu with rfl | rfl
    · exact e3 _ (by simp)
    · rfl
  · match k with
    | 0 =>
      have := e4 0 v rfl
      rw [Array.getElem?_setIfInBounds, if_neg (by omega)]
      rw [← Option.some.inj (show some v = some u from hk)]
      exact this
    | 1 =>
      have h1 := e4 1 _ rfl
      have h2 : Value.int .i64 (if i = j then m else q) = u := Option.some.inj hk
      subst h2
      rw [Array.getElem?_setIfInBounds]
      by_cases hij : i = j
      · subst hij
        rw [if_pos rfl, if_pos (Array.getElem?_eq_some_iff.1 h1).1, if_pos rfl]
      · rw [if_neg (by omega), if_neg hij]; exact h1
    | k + 2 => simp at hk
theorem ents_pokeV {w : World} {okE okV : Blk} {v : Value} {z : List GE} (h : RdL 2 (ES w okV) w okE v z) (hsV : ∀ k, ¬ okV k FZ) {g : Nat} (hg : ∀ t cells fr, w.heap[g]? = some (.cells cells t fr) → ¬ okE g t) (p : Nat) (u : Value) (hu : u.oneCell' = true) :
    RdL 2 (ES (w.setCell ⟨g, p, none⟩ u) okV) (w.setCell ⟨g, p, none⟩ u) okE v z :=
  h.move (fun _ _ ⟨v, n, h1, h2⟩ => ⟨v, n, h1, h2.poke hsV g p u hu⟩) (Stays.set okE hg u)
theorem poke4 {w : World} {okE okV : Blk} {v v1 : Value} {z : List GE} {r : List GV} (h : RdL 2 (ES w okV) w okE v z) (h1 : RdL 4 (α := GV) Tru w okV v1 r) (hsV : ∀ k, ¬ okV k FZ) {g : Nat} {t : TypeId} {cells : Array Value} (hb : w.heap[g]? = some (.cells cells t (0, 0))) (hg : ¬ okE g t) {b o : Nat} {a : Value} (hne : b ≠ g) (ha : w.cell? ⟨b, o, none⟩ = some a)
    (p0 p1 p2 p3 : Nat) (u0 u1 u2 u3 : Value) (e0 : u0.oneCell' = true) (e1 : u1.oneCell' = true) (e2 : u2.oneCell' = true) (e3 : u3.oneCell' = true) {W : World} (hW : W = (((w.setCell ⟨g, p0, none⟩ u0).setCell ⟨g, p1, none⟩ u1).setCell ⟨g, p2, none⟩ u2).setCell ⟨g, p3, none⟩ u3) :
    RdL 2 (ES W okV) W okE v z ∧ RdL 4 (α := GV) Tru W okV v1 r ∧ W.cell? ⟨b, o, none⟩ = some a := by
  subst hW
  have hgg : ∀ {W : World} {cs : Array Value}, W.heap[g]? = some (.cells cs t (0, 0)) → ∀ t' cells fr, W.heap[g]? = some (.cells cells t' fr) → ¬ okE g t' := fun h t' cells fr h' ho => by
    rw [h] at h'
    injection h' with h'
    injection h' with _ h2 _
    exact hg (h2 ▸ ho)
  have b1 := heap_setCell_same _ g p0 _ t u0 hb
  have b2 := heap_setCell_same _ g p1 _ t u1 b1
  have b3 := heap_setCell_same _ g p2 _ t u2 b2
  refine ⟨ents_pokeV (ents_pokeV (ents_pokeV (ents_pokeV h hsV (hgg hb) p0 u0 e0) hsV (hgg b1) p1 u1 e1) hsV (hgg b2) p2 u2 e2) hsV (hgg b3) p3 u3 e3,
    (((h1.poke hsV g p0 u0 e0).poke hsV g p1 u1 e1).poke hsV g p2 u2 e2).poke hsV g p3 u3 e3, ?_⟩
  rw [World.cell?_of_block (heap_setCell_other _ ⟨g, p3, none⟩ b u3 hne), World.cell?_of_block (heap_setCell_other _ ⟨g, p2, none⟩ b u2 hne), World.cell?_of_block (heap_setCell_other _ ⟨g, p1, none⟩ b u1 hne), World.cell?_of_block (heap_setCell_other _ ⟨g, p0, none⟩ b u0 hne)]
  exact ha
set_option maxHeartbeats 2000000 in
set_option maxRecDepth 100000 in
theorem spoil_any (P : Nat → Prop) (okE okV : Blk) (v : Value) (z : List GE) (w : World) (h : RdL 2 (ES w okV) w okE v z) (hE : ∀ k t, okE k t → t = 66 ∧ P k) (hV : ∀ k t, okV k t → t = 96 ∧ P k) :
    Calls Tryz.prog 19 #[v] w fun e w' => e = .returned (.tuple #[]) ∧ Wrote P w w' := by
  have sE : ∀ k, ¬ okE k FZ := fun k h => absurd (hE k FZ h).1 (by decide)
  have sV : ∀ k, ¬ okV k FZ := fun k h => absurd (hV k FZ h).1 (by decide)
  obtain ⟨A, c, rfl, hc⟩ := h.shape
  have hl := h.len
  have HS := As.mk h
  have HE := As.mk hE
  have HV := As.mk hV
  have HSE := As.mk sE
  have HSV := As.mk sV
  clear h hE hV sE sV
  go_enter Tryz.func19, Tryz.ntmps19
  go_wp2_with fail
  go_loopg [2, 3] z.length (fun g s2 _ wr => ∃ (i : Nat), i ≤ z.length ∧ z.length - i ≤ g ∧ s2 = .int .i64 i ∧ As (RdL 2 (ES wr okV) wr okE (.slice A z.length c) z) ∧ As (Wrote P w wr))
  case atStart => exact ⟨0, by omega, by omega, by go_num, HS, ⟨Wrote.refl _ _⟩⟩
  case round =>
    obtain ⟨i, hi, hg, rfl, HS2, HW⟩ := hrel
    by_cases hlt : i < z.length
    · have hltz : (i : Int) < (z.length : Int) := by omega
      obtain ⟨x, hx⟩ : ∃ x, z[i]? = some x := ⟨_, List.getElem?_eq_getElem hlt⟩
      obtain ⟨b, o, c', t, hv, hb, hbt, ⟨cells, hbh⟩, cs, _, ⟨u, n, rfl, hu⟩, hcc⟩ := rdl_cell HS2.out HSE.out hx
      injection hv with hA _ hccc
      subst hA hccc
      obtain ⟨A1, d1, rfl, hd1⟩ := hu.shape
      have hul := hu.len
      have e0 := hcc 0 _ rfl
      have hbt' := HE.out b t hbt
      rw [Nat.add_zero] at e0
      have HU := As.mk hu
      have HBT := As.mk hbt
      have HX := As.mk hx
      have HC0 := As.mk e0
      clear hu hcc hbt hx hbh
      generalize wr = wo at *
      go_wp2_with fail
      go_loopg [3] x.row.length (fun g s3 wr => ∃ (k : Nat), k ≤ x.row.length ∧ x.row.length - k ≤ g ∧ s3 = .int .i64 k ∧ As (RdL 2 (ES wr okV) wr okE (.slice (some ⟨b, o, none⟩) z.length c) z) ∧ As (Wrote P w wr) ∧ As (wr.cell? ⟨b, o + i * 2, none⟩ = some (.slice A1 x.row.length d1)) ∧ As (RdL 4 Tru wr okV (.slice A1 x.row.length d1) x.row))
      case atStart => exact ⟨0, by omega, by omega, by go_num, HS2, HW, HC0, HU⟩
      case round =>
        obtain ⟨k, hk, hg2, rfl, HS3, HW3, HC3, HU3⟩ := hrel
        have e0 := HC3.out
        by_cases hlt2 : k < x.row.length
        · have hltz2 : (k : Int) < (x.row.length : Int) := by omega
          obtain ⟨y, hy⟩ : ∃ y, x.row[k]? = some y := ⟨_, List.getElem?_eq_getElem hlt2⟩
          obtain ⟨b1, o1, c1, t1, hv1, hb1, hbt1, ⟨cells1, hbh1⟩, cs1, hl1, _, hcc1⟩ := rdl_cell HU3.out HSV.out hy
          injection hv1 with hA1 _ hcc1'
          subst hA1
          match cs1, hl1 with
          | [q0, q1, q2, q3], _ =>
            have r0 := hcc1 0 _ rfl
            have r1 := hcc1 1 _ rfl
            have r2 := hcc1 2 _ rfl
            have r3 := hcc1 3 _ rfl
            rw [Nat.add_zero] at r0
            have z0 := frozen_of_row wr b1 (o1 + k * 4) cells1 t1 hbh1
            have z1 := frozen_of_row wr b1 (o1 + k * 4 + 1) cells1 t1 hbh1
            have z2 := frozen_of_row wr b1 (o1 + k * 4 + 2) cells1 t1 hbh1
            have z3 := frozen_of_row wr b1 (o1 + k * 4 + 3) cells1 t1 hbh1
            have hne : b ≠ b1 := by
              obtain ⟨b2, o2, c2, t2, hv2, hb2, hbt2, ⟨cells2, hbh2⟩, _⟩ := rdl_cell HS3.out HSE.out HX.out
              injection hv2 with hA2 _ _
              injection hA2 with hA2
              injection hA2 with hA3 hA4 _
              rintro rfl
              subst hA3
              rw [hbh1] at hbh2
              injection hbh2 with h2
              injection h2 with _ h2 _
              have h3 := (HE.out _ _ hbt2).1
              rw [← h2, (HV.out _ _ hbt1).1] at h3
              exact absurd h3 (by decide)
            go_wp2_with fail
            go_roundg (x.row.length - (k + 1))
            case measure => omega
            case rel =>
              obtain ⟨p1, p2, p3⟩ := poke4 HS3.out HU3.out HSV.out hbh1 (fun h => absurd ((HE.out b1 t1 h).1.symm.trans (HV.out b1 t1 hbt1).1) (by decide)) hne e0 (o1 + k * 4) (o1 + k * 4 + 1) (o1 + k * 4 + 2) (o1 + k * 4 + 3) (.int .i64 99) (.int .i64 0) (.int .u64 0) (.string ⟨#[]⟩) rfl rfl rfl rfl rfl
              have hP := (HV.out b1 t1 hbt1).2
              exact ⟨k + 1, by omega, by omega, by go_num, ⟨p1⟩, ⟨(((HW3.out.set (p := ⟨b1, _, none⟩) hP _).set (p := ⟨b1, _, none⟩) hP _).set (p := ⟨b1, _, none⟩) hP _).set (p := ⟨b1, _, none⟩) hP _⟩, ⟨p3⟩, ⟨p2⟩⟩
        · have hltz2 : ¬ (k : Int) < (x.row.length : Int) := by omega
          obtain ⟨b2, o2, c2, t2, hv2, hb2, hbt2, ⟨cells2, hbh2⟩, cs2, hl2, ⟨_, n2, rfl, _⟩, hcc2⟩ := rdl_cell HS3.out HSE.out HX.out
          injection hv2 with hA2 hq1 hq2
          clear hq1 hq2
          injection hA2 with hA2
          injection hA2 with hA3 hA4 _
          subst hA3 hA4
          have r1 := hcc2 1 _ rfl
          have z1 := frozen_of_row wr b (o + i * 2 + 1) cells2 t2 hbh2
          go_wp2_with fail
          go_roundg (z.length - (i + 1))
          case measure => omega
          case rel => exact ⟨i + 1, by omega, by omega, by go_num, ⟨ents_poke HS3.out HSE.out (fun t h h' => absurd ((HE.out b t h).1.symm.trans (HV.out b t h').1) (by decide)) i (-99)⟩, ⟨HW3.out.set (p := ⟨b, _, none⟩) (HE.out b t2 hbt2).2 _⟩⟩
    · have hltz : ¬ (i : Int) < (z.length : Int) := by omega
      go_wp2_with fail
      go_end0
      exact ⟨rfl, HW.out⟩
end Go.Proofs.YtflckpfpgpfjlaaGreatDoor
