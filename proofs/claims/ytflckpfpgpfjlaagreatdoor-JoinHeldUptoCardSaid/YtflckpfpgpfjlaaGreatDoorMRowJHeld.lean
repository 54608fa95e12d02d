/- The row of JoinHeld. -/
import Derived.Test.YtflckpfpgpfjlaaGreatDoorMOpn
import Derived.Test.YtflckpfpgpfjlaaGreatDoorMOg
import Derived.Test.YtflckpfpgpfjlaaGreatDoorTie
import Derived.WalkKit
import Derived.ProofKit
import Derived.OpenShut
import Derived.Carry
import Derived.Shelf.Vars
import Derived.Deep.DeepHandedRow
import Derived.Lib.LaidTab
set_option linter.unusedVariables false
set_option linter.unusedSimpArgs false
namespace Go.Proofs.YtflckpfpgpfjlaaGreatDoor.joinHeld
open Go.ChangeShapes Go.WideShapes Go.ChangeAt Go.RowKit
theorem laidOut : laidOutB Tryz.prog = true := by kernel_rfl
theorem own : ownKnob Tryz.prog.godebug = none := by kernel_rfl
/-- MaxLen holds some number. -/
theorem gw {W : World} (h : W.ShapedOpen Tryz.prog) : GW W :=
  cell_of_shapedOpen_int (zero := #[.int .i64 0]) h (of_decide_eq_true (by kernel_rfl)) (by kernel_rfl) rfl (by kernel_rfl) (by kernel_rfl) Tryz.underlying3
set_option maxRecDepth 100000 in
theorem contract (H : Type) (enc : TypeId × Value → H) (W : World) (base : Nat) (args : Array Value) (ds gs : List (DataW H)) (before : List MemPlace)
    (hval : ∀ (j : Nat) t v, Tryz.f7.params[j]? = some t → args[j]? = some v → Value.okWide Tryz.prog W .any base t v)
    (hW : DataW.Whole enc Tryz.prog Tryz.f7.params.toList Rows.joinHeldSpec.vars false W args.toList ds gs before) (hk : Rows.uptoSmall H (ds ++ gs) = true) (hS : W.ShapedOpen Tryz.prog) :
    Calls Tryz.prog 7 args W fun e W' => ∃ v, e = .returned v ∧ Rows.joinHeldSpec.post enc Tryz.prog Tryz.f7 false true false false W args v W' := by
  have hW' := hW
  obtain ⟨p, q, hA0, hV, rfl, hfz, hnd⟩ := hW
  have hA : DataW.TrodAll enc Tryz.prog W 0 (fun _ => true) true Tryz.f7.params.toList args.toList ds p := hA0
  rw [Tryz.params7] at hA hval
  obtain ⟨v0, vs0, d0, ds0, p0, q0, hargs, rfl, rfl, h0, r0⟩ := trodAll_cons hA
  obtain ⟨v1, vs1, d1, ds1, p1, q1, rfl, rfl, rfl, h1, r1⟩ := trodAll_cons r0
  obtain ⟨v2, vs2, d2, ds2, p2, q2, rfl, rfl, rfl, h2, r2⟩ := trodAll_cons r1
  obtain ⟨rfl, rfl, rfl⟩ := trodAll_nil r2
  obtain rfl : args = #[v0, v1, v2] := by cases args; simp_all
  obtain ⟨rfl, rfl⟩ := trodVars_none hV
  have hb : Rows.uptoBulkAll [d0, d1, d2] ≤ 1048576 := by
    have := of_decide_eq_true hk
    simpa using this
  simp only [Rows.uptoBulkAll] at hb
  have b0 : Rows.uptoBulk d0 ≤ 1048576 := by omega
  have b1 : Rows.uptoBulk d1 ≤ 1048576 := by omega
  have b2 : Rows.uptoBulk d2 ≤ 1048576 := by omega
  have e0 : ∃ cs : List Value, v0 = .agg cs.toArray ∧ NodeC W (PlanAt W 80) cs := by
    obtain ⟨n, hn⟩ := h0
    obtain ⟨cs, rfl, hcs⟩ := okWide_struct Tryz.underlying28 (hval 0 28 v0 rfl rfl)
    have h13 : cs.size = 13 := hcs.trans (by kernel_rfl)
    exact ⟨cs.toList, by simp, (open_node (P := PlanAt W 80) (vs := cs.toList) (by simpa using h13) hn b0 (open_plan 80)).1⟩
  have e1 : ∃ r, RdI W AnyB v1 r := by
    obtain ⟨n, hn⟩ := h1
    obtain ⟨v, r, hc, hr⟩ := open_ints hn b1
    obtain ⟨a, l, c, rfl⟩ := okWide_slice Tryz.underlying22 (hval 1 22 v1 rfl rfl)
    simp only [Value.cells, List.cons.injEq, and_true] at hc
    exact ⟨r, hc ▸ hr⟩
  have e2 : ∃ r, RdDD W AnyB v2 r := by
    obtain ⟨n, hn⟩ := h2
    obtain ⟨v, r, hc, hr⟩ := open_zss hn b2
    obtain ⟨a, l, c, rfl⟩ := okWide_slice Tryz.underlying29 (hval 2 29 v2 rfl rfl)
    simp only [Value.cells, List.cons.injEq, and_true] at hc
    exact ⟨r, hc ▸ hr⟩
  obtain ⟨cs, rfl, hN⟩ := e0
  obtain ⟨r1, hr1⟩ := e1
  obtain ⟨r2, hr2⟩ := e2
  have hN' := hN
  obtain ⟨op, a, b, nk, name, anti, A1, A2, A3, A4, A5, A6, A7, c1, c2, c3, c4, l5, c5, l6, c6, c7, cols, others, kids, es, ps, rfl, _, g1, g2, _⟩ := hN'
  refine (lawJHeld_walk op a b nk name anti A1 A2 A3 A4 A5 A6 A7 c1 c2 kids.length c3 es.length c4 l5 c5 l6 c6 ps.length c7 cols others r1 r2 v1 v2 W (gw hS) g1 g2 hr1 hr2 hN fun W hg => awakeJ_any W hg).mono ?_
  rintro e W' ⟨rfl, hB⟩
  have hlt : ∀ x ∈ p0 ++ (p1 ++ (p2 ++ [])) ++ [], x.block < W.heap.size := fun x hx => by simpa using hW'.lt x hx
  refine ⟨_, rfl, [d0, d1, d2], [], _, [], p0 ++ (p1 ++ (p2 ++ [])), [], hW', trodAll_cons_mk (shut_bool Tryz.underlying4 _) trodAll_mk0, ?_, rfl, hB.frame _, fun h => by cases h⟩
  exact trodAll_cons_mk (Below.trod laidOut (by kernel_rfl) (of_decide_eq_true (by kernel_rfl)) h0 hB fun x hx => hlt x (by simp [hx])) (trodAll_cons_mk (Below.trod laidOut (by kernel_rfl) (of_decide_eq_true (by kernel_rfl)) h1 hB fun x hx => hlt x (by simp [hx])) (trodAll_cons_mk (Below.trod laidOut (by kernel_rfl) (of_decide_eq_true (by kernel_rfl)) h2 hB fun x hx => hlt x (by simp [hx])) trodAll_mk0))
end Go.Proofs.YtflckpfpgpfjlaaGreatDoor.joinHeld
