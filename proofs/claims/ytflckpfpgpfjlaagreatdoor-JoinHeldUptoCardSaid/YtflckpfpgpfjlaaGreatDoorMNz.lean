/- The reference of the join: its New of layer 9, its rows, nil. -/
import Derived.Test.YtflckpfpgpfjlaaGreatDoorMNy
import Derived.Test.YtflckpfpgpfjlaaGreatDoorMNi
set_option linter.unusedVariables false
set_option linter.unusedSimpArgs false
namespace Go.Proofs.YtflckpfpgpfjlaaGreatDoor
open Go.RowKit Go.Sort
set_option maxRecDepth 100000 in
set_option maxHeartbeats 1000000 in
theorem r9New_any (op m1 m2 nk : Int) (name : ByteArray) (anti : Bool) (A1 A2 A3 A4 A5 A6 A7 : Option Addr) (c1 c2 l3 c3 l4 c4 l5 c5 l6 c6 l7 c7 : Nat) (cols others widths : List Int) (u : Value) (w : World) (h1 : RdI w AnyB (.slice A1 cols.length c1) cols) (h2 : RdI w AnyB (.slice A2 others.length c2) others) (hu : RdI w AnyB u widths) :
    Calls Tryz.prog 21 #[.agg #[.int .i64 op, .int .i64 m1, .int .i64 m2, .int .i64 nk, .string name, .bool anti, .slice A1 cols.length c1, .slice A2 others.length c2, .slice A3 l3 c3, .slice A4 l4 c4, .slice A5 l5 c5, .slice A6 l6 c6, .slice A7 l7 c7], u] w (R8New op widths cols others w) := by
  have mixed := mixed
  obtain ⟨W0, hW0⟩ : ∃ W0, W0 = w.alloc (.cells #[.int .i64 op, .int .i64 m1, .int .i64 m2, .int .i64 nk, .string name, .bool anti, .slice A1 cols.length c1, .slice A2 others.length c2, .slice A3 l3 c3, .slice A4 l4 c4, .slice A5 l5 c5, .slice A6 l6 c6, .slice A7 l7 c7] 28) := ⟨_, rfl⟩
  have HNK := As.mk (node_keep op m1 m2 nk name anti A1 A2 A3 A4 A5 A6 A7 cols.length c1 others.length c2 l3 c3 l4 c4 l5 c5 l6 c6 l7 c7 w W0 28 hW0)
  have HE0 : As (Ext w W0) := ⟨hW0 ▸ Ext.alloc (Ext.refl w) _⟩
  have HN := As.mk (r8New_any op m1 m2 nk name anti A1 A2 A3 A4 A5 A6 A7 c1 c2 l3 c3 l4 c4 l5 c5 l6 c6 l7 c7 cols others widths u W0 (h1.ext HE0.out.below) (h2.ext HE0.out.below) (hu.ext HE0.out.below))
  clear h1 h2 hu
  go_enter Tryz.func21, Tryz.ntmps21
  obtain ⟨n0, n1, n2, n3, n4, n5, n6, n7, n8, n9, n10, n11, n12⟩ := HNK.out W0 (Below.refl _ _)
  rw [hW0] at n0 n1 n2 n3 n4 n5 n6 n7 n8 n9 n10 n11 n12
  go_wp2_with fail
  rw [← hW0]
  refine HN.out.mono ?_
  rintro e w1 ⟨hB, h⟩
  have HB := As.mk (HE0.out.below.trans (hB.mono HE0.out.size))
  have HSZ := HE0.out.size
  clear hB hW0
  clear n0 n1 n2 n3 n4 n5 n6 n7 n8 n9 n10 n11 n12
  rcases h with ⟨hn, rfl⟩ | ⟨base, ub, gb, x, y, at0, at1, B1, B2, d1, d2, ho, hw, hj, rfl, hb0, hb1, hb2, hop, hr1, hr2⟩
  · have HN := As.mk hn
    clear hn
    go_wp2_with fail
    go_ret2
    exact ⟨HB.out, .inl ⟨HN.out, rfl⟩⟩
  · have HR : As (∃ (base ub gb : Nat) (x y at0 at1 : Int) (B1 B2 : Option Addr) (d1 d2 : Nat), op = 5 ∧ widths = [x, y] ∧ joinOk cols others x y = true ∧ Ending.returned (.tuple #[.pointer (some ⟨ub, 0, none⟩), .int .i64 0]) = .returned (.tuple #[.pointer (some ⟨ub, 0, none⟩), .int .i64 0]) ∧ w.heap.size ≤ base ∧ base ≤ ub ∧ base ≤ gb ∧
     ROp base ub gb w1 (JNd at0 at1 B1 B2 d1 d2 cols others) [x, y] [[], []] [] 0 ∧ RdI w1 IB (.slice B1 cols.length d1) cols ∧ RdI w1 IB (.slice B2 others.length d2) others) := ⟨base, ub, gb, x, y, at0, at1, B1, B2, d1, d2, ho, hw, hj, rfl, Nat.le_trans HSZ hb0, hb1, hb2, hop, hr1, hr2⟩
    have HU : As (∃ (base gb : Nat) (x y at0 at1 : Int) (B1 B2 : Option Addr) (d1 d2 : Nat), op = 5 ∧ widths = [x, y] ∧ joinOk cols others x y = true ∧ w.heap.size ≤ base ∧ base ≤ ub ∧ base ≤ gb ∧
     ROp base ub gb w1 (JNd at0 at1 B1 B2 d1 d2 cols others) [x, y] [[], []] [] 0 ∧ RdI w1 IB (.slice B1 cols.length d1) cols ∧ RdI w1 IB (.slice B2 others.length d2) others) := ⟨base, gb, x, y, at0, at1, B1, B2, d1, d2, ho, hw, hj, Nat.le_trans HSZ hb0, hb1, hb2, hop, hr1, hr2⟩
    clear HR ho hw hj hb0 hb1 hb2 hop hr1 hr2
    go_wp2_with fail
    go_ret2
    obtain ⟨base, gb, x, y, at0, at1, B1, B2, d1, d2, ho, hw, hj, hb0, hb1, hb2, hop, hr1, hr2⟩ := HU.out
    exact ⟨HB.out, .inr ⟨base, ub, gb, x, y, at0, at1, B1, B2, d1, d2, ho, hw, hj, rfl, hb0, hb1, hb2, hop, hr1, hr2⟩⟩
set_option maxRecDepth 100000 in
set_option maxHeartbeats 1000000 in
theorem r8Step_nil (v : Value) (w : World) : Calls Tryz.prog 23 #[.pointer none, v] w (fun e w' => w' = w ∧ e = .returned (.tuple #[.slice none 0 0, .int .i64 2, .bool true])) := by
  have mixed := mixed
  go_enter Tryz.func23, Tryz.ntmps23
  go_wp2_with fail
  go_ret3
  exact ⟨rfl, rfl⟩
def MuchPost (ds : List (List GE)) (w : World) (e : Ending) (w' : World) : Prop := ∃ q, e = .returned (.bool q) ∧ w' = w ∧ (q = false → ds.length ≤ 20 ∧ ∀ d ∈ ds, d.length ≤ 40)
set_option maxRecDepth 100000 in
set_option maxHeartbeats 2000000 in
theorem lMuch_any (v : Value) (ds : List (List GE)) (w : World) (h : RdD w AnyB v ds) : Calls Tryz.prog 22 #[v] w (MuchPost ds w) := by
  have mixed := mixed
  obtain ⟨A, c, rfl, _⟩ := h.shape
  have hl := h.len
  have H := As.mk h
  clear h
  by_cases h20 : ds.length ≤ 20
  · have hgt : decide ((ds.length : Int) > 20) = false := by simp; omega
    have hgn : ¬ ((20 : Int) < (ds.length : Int)) := by omega
    go_enter Tryz.func22, Tryz.ntmps22
    go_wp2_with fail
    go_loopg [2, 3] ds.length (fun g s2 s3 wr => ∃ i : Nat, i ≤ ds.length ∧ ds.length - i ≤ g ∧ s2 = .bool false ∧ s3 = .int .i64 i ∧ wr = w ∧ As (∀ (k : Nat) (d : List GE), k < i → ds[k]? = some d → d.length ≤ 40))
    case atStart => exact ⟨0, by omega, by omega, rfl, by go_num, rfl, ⟨fun k d hk => absurd hk (by omega)⟩⟩
    case round =>
      obtain ⟨i, hi, hg, rfl, rfl, rfl, HD⟩ := hrel
      by_cases hlt : i < ds.length
      · have hltz : (i : Int) < (ds.length : Int) := by omega
        obtain ⟨d, hd⟩ : ∃ d, ds[i]? = some d := ⟨_, List.getElem?_eq_getElem hlt⟩
        obtain ⟨b, o, c', A', cd, hv, hb, hr, e0⟩ := RdD.delta H.out hd
        injection hv with hA _ hcc
        subst hA hcc
        have HDI := As.mk hd
        have hdl := hr.len
        clear hr hd
        by_cases h40 : d.length ≤ 40
        · have h40n : ¬ ((40 : Int) < (d.length : Int)) := by omega
          go_wp2_with fail
          go_roundg (ds.length - (i + 1))
          case measure => omega
          case rel => exact ⟨i + 1, by omega, by omega, by go_num, by go_num, rfl, ⟨fun k d' hk hd' => by
            by_cases hki : k = i
            · subst hki
              rw [HDI.out] at hd'
              injection hd' with hd'
              subst hd'
              exact h40
            · exact HD.out k d' (by omega) hd'⟩⟩
        · have h40n : (40 : Int) < (d.length : Int) := by omega
          go_wp2_with fail
          go_ret
          exact ⟨true, rfl, rfl, fun h => by cases h⟩
      · have hltz : ¬ (i : Int) < (ds.length : Int) := by omega
        go_wp2_with fail
        go_ret
        refine ⟨false, rfl, rfl, fun _ => ⟨h20, fun d hd => ?_⟩⟩
        obtain ⟨k, hk, rfl⟩ := List.mem_iff_getElem.1 hd
        exact HD.out k _ (by omega) (List.getElem?_eq_getElem hk)
  · have hgn : (20 : Int) < (ds.length : Int) := by omega
    go_enter Tryz.func22, Tryz.ntmps22
    go_wp2_with fail
    go_ret
    exact ⟨true, rfl, rfl, fun h => by cases h⟩
end Go.Proofs.YtflckpfpgpfjlaaGreatDoor
