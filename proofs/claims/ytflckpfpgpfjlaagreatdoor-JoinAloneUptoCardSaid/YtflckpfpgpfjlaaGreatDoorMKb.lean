/- The walk of the law's meets. The walk of the law's bag. -/
import Derived.Test.YtflckpfpgpfjlaaGreatDoorMJa
import Derived.Test.YtflckpfpgpfjlaaGreatDoorMJe
import Derived.BigQuiet
import Derived.Test.YtflckpfpgpfjlaaGreatDoorMZadd
set_option linter.unusedVariables false
set_option linter.unusedSimpArgs false
section
namespace Go.Proofs.YtflckpfpgpfjlaaGreatDoor
open Go.RowKit Go.Sort
theorem pickL_at {r : List GV} : ∀ {cols : List Int} {k : List GV}, pickL r cols = some k → k.length = cols.length ∧ ∀ (i : Nat) (c : Int), cols[i]? = some c → 0 ≤ c ∧ c < (r.length : Int) ∧ ∃ x, r[c.toNat]? = some x ∧ k[i]? = some x
  | [], k, h => by
    rw [pickL] at h
    injection h with h
    subst h
    exact ⟨rfl, fun i c hc => by simp at hc⟩
  | c :: cols, k, h => by
    rw [pickL] at h
    split at h
    · cases h
    · next h0 =>
      split at h
      · cases h
      · next x hx =>
        obtain ⟨k', hk', rfl⟩ := Option.map_eq_some_iff.1 h
        obtain ⟨h1, h2⟩ := pickL_at hk'
        refine ⟨by simp [h1], fun i d hd => ?_⟩
        cases i with
        | zero =>
          simp only [List.getElem?_cons_zero, Option.some.injEq] at hd
          subst hd
          have := (List.getElem?_eq_some_iff.1 hx).1
          exact ⟨by omega, by omega, x, hx, rfl⟩
        | succ i =>
          simp only [List.getElem?_cons_succ] at hd ⊢
          exact h2 i d hd
theorem meetK_pick {lc rc : List Int} {p q kp kq : List GV} (hp : pick p lc = some kp) (hq : pick q rc = some kq) : meetK lc rc p q = sameR kp kq := by
  unfold meetK keyOf
  rw [hp, hq]; rfl
theorem pick_pickL {r k : List GV} {cols : List Int} (h : pick r cols = some k) : pickL r cols = some k := by
  unfold pick at h
  split at h
  · exact h
  · cases h
/-- A plan's node as it is handed over. -/
def nodeV (op m1 m2 k : Int) (name : ByteArray) (anti : Bool) (A1 A2 A3 A4 A5 A6 A7 : Option Addr) (l1 c1 l2 c2 l3 c3 l4 c4 l5 c5 l6 c6 l7 c7 : Nat) : Array Value := #[.int .i64 op, .int .i64 m1, .int .i64 m2, .int .i64 k, .string name, .bool anti, .slice A1 l1 c1, .slice A2 l2 c2, .slice A3 l3 c3, .slice A4 l4 c4, .slice A5 l5 c5, .slice A6 l6 c6, .slice A7 l7 c7]
theorem node_cells (w : World) (op m1 m2 k : Int) (name : ByteArray) (anti : Bool) (A1 A2 A3 A4 A5 A6 A7 : Option Addr) (l1 c1 l2 c2 l3 c3 l4 c4 l5 c5 l6 c6 l7 c7 : Nat) (T : TypeId) :
    (w.alloc (.cells #[.int .i64 op, .int .i64 m1, .int .i64 m2, .int .i64 k, .string name, .bool anti, .slice A1 l1 c1, .slice A2 l2 c2, .slice A3 l3 c3, .slice A4 l4 c4, .slice A5 l5 c5, .slice A6 l6 c6, .slice A7 l7 c7] T)).cell? ⟨w.heap.size, 6, none⟩ = some (.slice A1 l1 c1) ∧
    (w.alloc (.cells #[.int .i64 op, .int .i64 m1, .int .i64 m2, .int .i64 k, .string name, .bool anti, .slice A1 l1 c1, .slice A2 l2 c2, .slice A3 l3 c3, .slice A4 l4 c4, .slice A5 l5 c5, .slice A6 l6 c6, .slice A7 l7 c7] T)).cell? ⟨w.heap.size, 7, none⟩ = some (.slice A2 l2 c2) := by
  have h1 : (w.alloc (.cells #[.int .i64 op, .int .i64 m1, .int .i64 m2, .int .i64 k, .string name, .bool anti, .slice A1 l1 c1, .slice A2 l2 c2, .slice A3 l3 c3, .slice A4 l4 c4, .slice A5 l5 c5, .slice A6 l6 c6, .slice A7 l7 c7] T)).heap[w.heap.size]? = some (.cells #[.int .i64 op, .int .i64 m1, .int .i64 m2, .int .i64 k, .string name, .bool anti, .slice A1 l1 c1, .slice A2 l2 c2, .slice A3 l3 c3, .slice A4 l4 c4, .slice A5 l5 c5, .slice A6 l6 c6, .slice A7 l7 c7] T (0, 0)) := heap_alloc_new w _
  refine ⟨?_, ?_⟩ <;> rw [Lib.cell_of_heap h1] <;> rfl
attribute [local go_sem ↓] eqVal neVal
set_option maxRecDepth 100000 in
set_option maxHeartbeats 2000000 in
theorem lMeets_any (op m1 m2 nk : Int) (name : ByteArray) (anti : Bool) (A1 A2 A3 A4 A5 A6 A7 : Option Addr) (c1 c2 l3 c3 l4 c4 l5 c5 l6 c6 l7 c7 : Nat) (cols others : List Int) (v u : Value) (r s kr ks : List GV) (w : World) (hr : RdV w AnyB v r) (hs : RdV w AnyB u s) (h1 : RdI w AnyB (.slice A1 cols.length c1) cols) (h2 : RdI w AnyB (.slice A2 others.length c2) others) (hl : cols.length = others.length)
    (hkr : pickL r cols = some kr) (hks : pickL s others = some ks) :
    Calls Tryz.prog 27 #[v, u, .agg #[.int .i64 op, .int .i64 m1, .int .i64 m2, .int .i64 nk, .string name, .bool anti, .slice A1 cols.length c1, .slice A2 others.length c2, .slice A3 l3 c3, .slice A4 l4 c4, .slice A5 l5 c5, .slice A6 l6 c6, .slice A7 l7 c7]] w fun e w' => e = .returned (.bool (sameR kr ks)) ∧ Ext w w' := by
  have mixed := mixed
  obtain ⟨hlr, hcr⟩ := pickL_at hkr
  obtain ⟨hls, hcs⟩ := pickL_at hks
  have HV : As (sameR kr ks = (decide (kr.length = ks.length) && allS GV.same kr ks)) := ⟨rfl⟩
  obtain ⟨A, c, rfl, hc⟩ := hr.shape
  obtain ⟨B, d, rfl, hd⟩ := hs.shape
  have hlz := h1.len
  obtain ⟨n6, n7⟩ := node_cells w op m1 m2 nk name anti A1 A2 A3 A4 A5 A6 A7 cols.length c1 others.length c2 l3 c3 l4 c4 l5 c5 l6 c6 l7 c7 28
  have HE0 : As (Ext w (w.alloc (.cells #[.int .i64 op, .int .i64 m1, .int .i64 m2, .int .i64 nk, .string name, .bool anti, .slice A1 cols.length c1, .slice A2 others.length c2, .slice A3 l3 c3, .slice A4 l4 c4, .slice A5 l5 c5, .slice A6 l6 c6, .slice A7 l7 c7] 28))) := ⟨Ext.alloc (Ext.refl w) _⟩
  have HR := As.mk (hr.ext HE0.out.below)
  have HS := As.mk (hs.ext HE0.out.below)
  have H1 := As.mk (h1.ext HE0.out.below)
  have H2 := As.mk (h2.ext HE0.out.below)
  have HCR := As.mk hcr
  have HCS := As.mk hcs
  have HLL := As.mk hl
  have HV2 : As (allS GV.same (kr.drop 0) (ks.drop 0) = sameR kr ks) := ⟨by rw [HV.out, decide_eq_true (by omega)]; simp⟩
  generalize sameR kr ks = q at *
  have HLR := As.mk hlr
  have HLS := As.mk hls
  clear hr hs h1 h2 hkr hks hcr hcs HV hlr hls hl
  go_enter Tryz.func27, Tryz.ntmps27
  go_wp2_with fail
  generalize hw0 : w.alloc _ = w0 at *
  generalize hnb : w.heap.size = nb at *
  go_loopg [7] cols.length (fun g s7 wr => ∃ (k m : Nat), k ≤ cols.length ∧ cols.length - k ≤ g ∧ s7 = .int .i64 k ∧ wr = w0.drewN m ∧ As (allS GV.same (kr.drop k) (ks.drop k) = q))
  case atStart => exact ⟨0, 0, by omega, by omega, by go_num, rfl, HV2⟩
  case round =>
    obtain ⟨k, m, hk, hg, rfl, rfl, HQ⟩ := hrel
    by_cases hlt : k < cols.length
    · have hltz : (k : Int) < (cols.length : Int) := by omega
      have hltz2 : (k : Int) < (others.length : Int) := by have := HLL.out; omega
      obtain ⟨ci, hci⟩ : ∃ ci, cols[k]? = some ci := ⟨_, List.getElem?_eq_getElem hlt⟩
      obtain ⟨oi, hoi⟩ : ∃ oi, others[k]? = some oi := ⟨_, List.getElem?_eq_getElem (by have := HLL.out; omega)⟩
      obtain ⟨hc0, hcl, x, hx, hkx⟩ := HCR.out k ci hci
      obtain ⟨ho0, hol, y, hy, hky⟩ := HCS.out k oi hoi
      obtain ⟨p1, q1, c1', hv1, hp1, hi1, g1⟩ := RdI.val H1.out hci
      obtain ⟨p2, q2, c2', hv2, hp2, hi2, g2⟩ := RdI.val H2.out hoi
      obtain ⟨p3, q3, c3', hv3, hp3, hxo, e0, e1, e2, e3⟩ := RdV.val HR.out hx
      obtain ⟨p4, q4, c4', hv4, hp4, hyo, f0, f1, f2, f3⟩ := RdV.val HS.out hy
      injection hv1 with hA _ _
      subst hA
      injection hv2 with hA _ _
      subst hA
      injection hv3 with hA _ _
      subst hA
      injection hv4 with hA _ _
      subst hA
      have HST : As (q = (x.same y && allS GV.same (kr.drop (k + 1)) (ks.drop (k + 1)))) := ⟨by rw [← HQ.out, allS_step GV.same hkx hky]⟩
      have HXY : As (x.same y = eqGV x.k x.n x.f x.t y.k y.n y.f y.t) := ⟨rfl⟩
      clear hx hy hkx hky hci hoi hxo hyo
      generalize x.same y = xy at *
      obtain ⟨xk, xn, xf, xt⟩ := x
      obtain ⟨yk, yn, yf, yt⟩ := y
      simp only at *
      cases hz : eqGV xk xn xf xt yk yn yf yt
      · have hq : q = false := by rw [HST.out, HXY.out, hz]; rfl
        subst hq
        go_wp2_with fail
        go_quiet (fail)
        go_wp2
        go_ret
        have he := HE0.out
        exact ⟨rfl, (by repeat (first | (with_reducible exact Ext.refl _) | (with_reducible assumption) | (with_reducible apply Ext.alloc) | (with_reducible apply Ext.drewN) | (with_reducible apply Ext.drew) | (with_reducible apply Ext.grow) | (with_reducible refine Ext.trans ?_ (by with_reducible assumption))))⟩
      · have HQ2 : As (allS GV.same (kr.drop (k + 1)) (ks.drop (k + 1)) = q) := ⟨by rw [HST.out, HXY.out, hz, Bool.true_and]⟩
        go_wp2_with fail
        go_quiet (fail)
        go_wp2
        go_roundg (cols.length - (k + 1))
        case measure => omega
        case rel => exact ⟨k + 1, _, by omega, by omega, by go_num, rfl, HQ2⟩
    · have hltz : ¬ (k : Int) < (cols.length : Int) := by omega
      go_wp2
      go_ret
      exact ⟨ret_bool (by rw [← HQ.out, List.drop_eq_nil_of_le (by have := HLR.out; omega), List.drop_eq_nil_of_le (by have := HLS.out; have := HLL.out; omega)]; rfl), HE0.out.drewN m⟩
end Go.Proofs.YtflckpfpgpfjlaaGreatDoor
end
section
namespace Go.Proofs.YtflckpfpgpfjlaaGreatDoor
open Go.RowKit Go.Sort
/-- What Add answered, one list in each case. -/
theorem AddPost.cases {a b : List GE} {w w' : World} {e : Ending} (h : AddPost a b w e w') : ∃ (A : Option Addr) (c : Nat) (k : Int) (y : List GE), e = .returned (.tuple #[.slice A y.length c, .int .i64 k]) ∧ Below w.heap.size w w' ∧ RdZ2 w' w.heap.size (.slice A y.length c) y ∧ (k = 0 → zsound a = true ∧ zsound b = true ∧ overL (a ++ b) = false ∧ Made (a ++ b) y) := by
  obtain ⟨hB, h⟩ := h
  by_cases h1 : zsound a = false ∨ zsound b = false
  · rw [if_pos h1] at h
    exact ⟨none, 0, 1, [], h, hB, RdL.nil _ _ _ _, fun e => absurd e (by decide)⟩
  · rw [if_neg h1] at h
    by_cases h2 : overL (a ++ b) = true
    · rw [if_pos h2] at h
      exact ⟨none, 0, 11, [], h, hB, RdL.nil _ _ _ _, fun e => absurd e (by decide)⟩
    · rw [if_neg h2] at h
      obtain ⟨v, y, he, hm, hr, _⟩ := h
      obtain ⟨A, c, rfl, _⟩ := hr.shape
      refine ⟨A, c, 0, y, he, hB, hr, fun _ => ⟨?_, ?_, by simpa using h2, hm⟩⟩
      · cases hz : zsound a with
        | true => rfl
        | false => exact absurd (.inl hz) h1
      · cases hz : zsound b with
        | true => rfl
        | false => exact absurd (.inr hz) h1
def BagLPost (z d : List GE) (n : Int) (w : World) (e : Ending) (w' : World) : Prop := ∃ (A : Option Addr) (c : Nat) (y : List GE) (ok : Bool), e = .returned (.tuple #[.slice A y.length c, .bool ok]) ∧ Below w.heap.size w w' ∧ RdZ2 w' w.heap.size (.slice A y.length c) y ∧ (ok = true → d.length ≤ 40 ∧ (∀ x ∈ d, (x.row.length : Int) = n) ∧ zsound z = true ∧ zsound d = true ∧ Made (z ++ d) y ∧ ∀ x ∈ y, 1 ≤ x.w ∧ x.w ≤ 1099511627776)
theorem BagLPost.no {z d : List GE} {n : Int} {w w' : World} (hB : Below w.heap.size w w') : BagLPost z d n w (.returned (.tuple #[.slice none 0 0, .bool false])) w' := ⟨none, 0, [], false, rfl, hB, RdL.nil _ _ _ _, fun h => by cases h⟩
theorem take_all {α : Type} {l : List α} {P : α → Prop} {k : Nat} {x : α} (h : ∀ y ∈ l.take k, P y) (hx : l[k]? = some x) (hp : P x) : ∀ y ∈ l.take (k + 1), P y := fun y hy => by
  rw [List.take_add_one, hx] at hy
  rcases List.mem_append.1 hy with hy | hy
  · exact h y hy
  · simp at hy
    rw [hy]; exact hp
set_option maxRecDepth 100000 in
set_option maxHeartbeats 2000000 in
theorem lBag_any (u v : Value) (z d : List GE) (n : Int) (w : World) (hz : RdZ w AnyB u z) (hd : RdZ w AnyB v d) (hn : i64 n) (hl : z.length ≤ 4294967000) :
    Calls Tryz.prog 11 #[u, v, .int .i64 n] w (BagLPost z d n w) := by
  have HADD := As.mk (fun h : d.length ≤ 40 => add_any u v z d w hz hd (by omega))
  obtain ⟨A, c, rfl, _⟩ := hz.shape
  obtain ⟨B, cb, rfl, _⟩ := hd.shape
  have HD := As.mk hd
  have hdl := hd.len
  clear hz hd
  by_cases h40 : d.length ≤ 40
  · have h40z : ¬ (40 : Int) < (d.length : Int) := by omega
    have HADD := As.mk (HADD.out h40)
    go_enter Tryz.func11, Tryz.ntmps11
    go_wp2_with fail
    go_loopg [8] d.length (fun g s8 wr => ∃ k : Nat, k ≤ d.length ∧ d.length - k ≤ g ∧ s8 = .int .i64 k ∧ wr = w ∧ As (∀ x ∈ d.take k, (x.row.length : Int) = n))
    case atStart => exact ⟨0, Nat.zero_le _, by omega, rfl, rfl, ⟨by simp⟩⟩
    case round =>
      obtain ⟨k, hk, hg, rfl, rfl, HA⟩ := hrel
      by_cases hlt : k < d.length
      · have hltz : (k : Int) < (d.length : Int) := by omega
        obtain ⟨x, hx⟩ : ∃ x, d[k]? = some x := ⟨_, List.getElem?_eq_getElem hlt⟩
        obtain ⟨b2, o2, c2', A2, d2, hv, hb2, hxw, hrow, e0, e1⟩ := RdZ.ent HD.out hx
        injection hv with hA _ hcc
        subst hA hcc
        have HTA := As.mk (fun (h : (x.row.length : Int) = n) => take_all HA.out hx h)
        clear hrow hx
        by_cases hrl : (x.row.length : Int) = n
        · have HA2 := As.mk (HTA.out hrl)
          subst hrl
          go_wp2
          go_roundg (d.length - (k + 1))
          case measure => omega
          case rel => exact ⟨k + 1, by omega, by omega, by go_num, rfl, HA2⟩
        · have hne : ((x.row.length : Int) != n) = true := by simpa using hrl
          go_wp2
          go_ret2
          exact BagLPost.no (Below.refl _ _)
      · have hltz : ¬ (k : Int) < (d.length : Int) := by omega
        obtain rfl : k = d.length := by omega
        rw [List.take_length] at HA
        go_wp2_with (go_at_call 14; refine HADD.out.mono ?_; rintro e w2 hp; obtain ⟨A5, c5, k5, y, rfl, hB, hr, hkk⟩ := hp.cases; have HB := As.mk hB; have HR := As.mk hr; have HKK := As.mk hkk; have hyl := hr.len; clear hp hB hr hkk)
        go_loopg [11] y.length (fun g s11 wr => ∃ k : Nat, k ≤ y.length ∧ y.length - k ≤ g ∧ s11 = .int .i64 k ∧ wr = w2 ∧ As (∀ x ∈ y.take k, 1 ≤ x.w ∧ x.w ≤ 1099511627776))
        case atStart => exact ⟨0, Nat.zero_le _, by omega, rfl, rfl, ⟨by simp⟩⟩
        case round =>
          obtain ⟨k, hk, hg, rfl, rfl, HY⟩ := hrel
          by_cases hlt : k < y.length
          · have hltz : (k : Int) < (y.length : Int) := by omega
            obtain ⟨x, hx⟩ : ∃ x, y[k]? = some x := ⟨_, List.getElem?_eq_getElem hlt⟩
            obtain ⟨b2, o2, c2', A2, d2, hv, hb2, hxw, hrow, e0, e1⟩ := RdZ.ent HR.out.any hx
            injection hv with hA _ hcc
            subst hA hcc
            have HTA := As.mk (fun (h : 1 ≤ x.w ∧ x.w ≤ 1099511627776) => take_all HY.out hx h)
            clear hrow hx
            by_cases h1 : x.w < 1
            · go_wp2
              go_ret2
              exact BagLPost.no HB.out
            · by_cases h2 : 1099511627776 < x.w
              · go_wp2
                go_ret2
                exact BagLPost.no HB.out
              · have HY2 := As.mk (HTA.out ⟨by omega, by omega⟩)
                go_wp2
                go_roundg (y.length - (k + 1))
                case measure => omega
                case rel => exact ⟨k + 1, by omega, by omega, by go_num, rfl, HY2⟩
          · have hltz : ¬ (k : Int) < (y.length : Int) := by omega
            obtain rfl : k = y.length := by omega
            rw [List.take_length] at HY
            go_wp2
            go_ret2
            exact ⟨A5, c5, y, _, rfl, HB.out, HR.out, fun h => by
              obtain ⟨g1, g2, _, g4⟩ := HKK.out (by simpa using h)
              exact ⟨h40, HA.out, g1, g2, g4, HY.out⟩⟩
  · have h40z : (40 : Int) < (d.length : Int) := by omega
    go_enter Tryz.func11, Tryz.ntmps11
    go_wp2
    go_ret2
    exact BagLPost.no (Below.refl _ _)
end Go.Proofs.YtflckpfpgpfjlaaGreatDoor
end
