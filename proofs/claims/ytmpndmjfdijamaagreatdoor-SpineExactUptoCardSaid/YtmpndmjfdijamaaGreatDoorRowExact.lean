/- The row of SpineExact. -/
import Derived.Test.YtmpndmjfdijamaaGreatDoorOpen2
import Derived.Test.YtmpndmjfdijamaaGreatDoorExact
import Derived.Test.YtmpndmjfdijamaaGreatDoorTie
import Derived.WalkKit
import Derived.ProofKit
import Derived.OpenShut
import Derived.Carry
import Derived.Shelf.Vars
import Derived.Deep.DeepHandedRow
import Derived.Lib.LaidTab
set_option linter.unusedVariables false
set_option linter.unusedSimpArgs false
namespace Go.Proofs.YtmpndmjfdijamaaGreatDoor.spineExact
open Go.ChangeShapes Go.WideShapes Go.ChangeAt Go.RowKit
theorem laidOut : laidOutB Tryz.prog = true := by kernel_rfl
theorem own : ownKnob Tryz.prog.godebug = none := by kernel_rfl
/-- MaxLen holds some number. -/
theorem gw {W : World} (h : W.ShapedOpen Tryz.prog) : GW W :=
  cell_of_shapedOpen_int (zero := #[.int .i64 0]) h (of_decide_eq_true (by kernel_rfl)) (by kernel_rfl) rfl (by kernel_rfl) (by kernel_rfl) Tryz.underlying3
set_option maxRecDepth 100000 in
theorem contract (H : Type) (enc : TypeId × Value → H) (W : World) (base : Nat) (args : Array Value) (ds gs : List (DataW H)) (before : List MemPlace)
    (hval : ∀ (j : Nat) t v, Tryz.f3.params[j]? = some t → args[j]? = some v → Value.okWide Tryz.prog W .any base t v)
    (hW : DataW.Whole enc Tryz.prog Tryz.f3.params.toList Rows.spineExactSpec.vars false W args.toList ds gs before) (hk : Rows.uptoSmall H (ds ++ gs) = true) (hS : W.ShapedOpen Tryz.prog) :
    Calls Tryz.prog 3 args W fun e W' => ∃ v, e = .returned v ∧ Rows.spineExactSpec.post enc Tryz.prog Tryz.f3 false true false false W args v W' := by
  have hW' := hW
  obtain ⟨p, q, hA0, hV, rfl, hfz, hnd⟩ := hW
  have hA : DataW.TrodAll enc Tryz.prog W 0 (fun _ => true) true Tryz.f3.params.toList args.toList ds p := hA0
  rw [Tryz.params3] at hA hval
  obtain ⟨v0, vs0, d0, ds0, p0, q0, hargs, rfl, rfl, h0, r0⟩ := trodAll_cons hA
  obtain ⟨v1, vs1, d1, ds1, p1, q1, rfl, rfl, rfl, h1, r1⟩ := trodAll_cons r0
  obtain ⟨v2, vs2, d2, ds2, p2, q2, rfl, rfl, rfl, h2, r2⟩ := trodAll_cons r1
  obtain ⟨rfl, rfl, rfl⟩ := trodAll_nil r2
  obtain rfl : args = #[v0, v1, v2] := by cases args; simp_all
  obtain ⟨rfl, rfl⟩ := trodVars_none hV
  have hb : Rows.uptoBulkAll [d0, d1, d2] ≤ 1048576 := by
    have := of_decide_eq_true hk
    simpa using this
  simp only [Rows.uptoBulkAll] at hb
  have b0 : Rows.uptoBulk d0 ≤ 1048576 := by omega
  have b1 : Rows.uptoBulk d1 ≤ 1048576 := by omega
  have b2 : Rows.uptoBulk d2 ≤ 1048576 := by omega
  have e0 : ∃ r, RdI W AnyB v0 r := by
    obtain ⟨n, hn⟩ := h0
    obtain ⟨v, r, hc, hr⟩ := open_ints hn b0
    obtain ⟨a, l, c, rfl⟩ := okWide_slice Tryz.underlying22 (hval 0 22 v0 rfl rfl)
    simp only [Value.cells, List.cons.injEq, and_true] at hc
    exact ⟨r, hc ▸ hr⟩
  have e1 : ∃ r, RdA W AnyB v1 r := by
    obtain ⟨n, hn⟩ := h1
    obtain ⟨v, r, hc, hr⟩ := open_acts hn b1
    obtain ⟨a, l, c, rfl⟩ := okWide_slice Tryz.underlying23 (hval 1 23 v1 rfl rfl)
    simp only [Value.cells, List.cons.injEq, and_true] at hc
    exact ⟨r, hc ▸ hr⟩
  have e2 : ∃ r, RdV W AnyB v2 r := by
    obtain ⟨n, hn⟩ := h2
    obtain ⟨v, r, hc, hr⟩ := open_vals hn b2
    obtain ⟨a, l, c, rfl⟩ := okWide_slice Tryz.underlying25 (hval 2 25 v2 rfl rfl)
    simp only [Value.cells, List.cons.injEq, and_true] at hc
    exact ⟨r, hc ▸ hr⟩
  obtain ⟨r0, hr0⟩ := e0
  obtain ⟨r1, hr1⟩ := e1
  obtain ⟨r2, hr2⟩ := e2
  refine (lawExact_any v0 v1 v2 r0 r1 r2 W (gw hS) hr0 hr1 hr2).mono ?_
  rintro e W' ⟨rfl, hB⟩
  have hlt : ∀ x ∈ p0 ++ (p1 ++ (p2 ++ [])) ++ [], x.block < W.heap.size := fun x hx => by simpa using hW'.lt x hx
  refine ⟨_, rfl, [d0, d1, d2], [], _, [], p0 ++ (p1 ++ (p2 ++ [])), [], hW', trodAll_cons_mk (shut_bool Tryz.underlying4 _) trodAll_mk0, ?_, rfl, hB.frame _, fun h => by cases h⟩
  exact trodAll_cons_mk (Below.trod laidOut (by kernel_rfl) (of_decide_eq_true (by kernel_rfl)) h0 hB fun x hx => hlt x (by simp [hx])) (trodAll_cons_mk (Below.trod laidOut (by kernel_rfl) (of_decide_eq_true (by kernel_rfl)) h1 hB fun x hx => hlt x (by simp [hx])) (trodAll_cons_mk (Below.trod laidOut (by kernel_rfl) (of_decide_eq_true (by kernel_rfl)) h2 hB fun x hx => hlt x (by simp [hx])) trodAll_mk0))
end Go.Proofs.YtmpndmjfdijamaaGreatDoor.spineExact
