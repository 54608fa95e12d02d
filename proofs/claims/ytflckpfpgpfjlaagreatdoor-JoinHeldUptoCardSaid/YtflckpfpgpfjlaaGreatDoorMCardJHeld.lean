/- The card of JoinHeld. -/
import Derived.Test.YtflckpfpgpfjlaaGreatDoorMRowJHeld
set_option linter.unusedVariables false
set_option linter.unusedSimpArgs false
namespace Go.Proofs.YtflckpfpgpfjlaaGreatDoor.joinHeld
open Go.ChangeShapes Go.WideShapes Go.ChangeAt Go.RowKit
def tab (cs : Array Value) : Obj → Obj
  | .cells _ t frozen => .cells cs t frozen
  | o => o
/-- A world for the witness: the settled one, the two tables holding what they are laid with. -/
noncomputable def laidWorld (os : Os) : World :=
  { World.holding Tryz.prog os ⟨#[], #[], []⟩ with
    heap := ((World.holding Tryz.prog os ⟨#[], #[], []⟩).heap.modify 2 (tab (Go.Pinned.utf8FirstZ.map fun (n : Nat) => Value.int .u8 n).toArray)).modify 3
      (tab (#[128, 191, 160, 191, 128, 159, 144, 191, 128, 143, 0, 0, 0, 0, 0, 0, 0, 0, 0, 0, 0, 0, 0, 0, 0, 0, 0, 0, 0, 0, 0, 0].map fun n => Value.int .u8 n)) }
theorem laid_met (os : Os) : laidMet Tryz.prog Rows.joinHeldUptoRow.laid ((laidWorld os).forCall (fun _ _ => 0) ⟨#[], #[.agg #[.int .i64 0, .int .i64 0, .int .i64 0, .int .i64 0, .string ⟨#[]⟩, .bool false, .slice none 0 0, .slice none 0 0, .slice none 0 0, .slice none 0 0, .slice none 0 0, .slice none 0 0, .slice none 0 0], .slice none 0 0, .slice none 0 0], []⟩).memory :=
  laidMet_of_run' 600 (by kernel_rfl) (by kernel_rfl)
theorem reads (os : Os) {H : Type} (enc : TypeId × Value → H) : ∃ places, DataW.whole enc Tryz.prog ((laidWorld os).forCall (fun _ _ => 0) ⟨#[], #[.agg #[.int .i64 0, .int .i64 0, .int .i64 0, .int .i64 0, .string ⟨#[]⟩, .bool false, .slice none 0 0, .slice none 0 0, .slice none 0 0, .slice none 0 0, .slice none 0 0, .slice none 0 0, .slice none 0 0], .slice none 0 0, .slice none 0 0], []⟩).memory Tryz.f7.params.toList Rows.joinHeldSpec.vars false #[Value.agg #[.int .i64 0, .int .i64 0, .int .i64 0, .int .i64 0, .string ⟨#[]⟩, .bool false, .slice none 0 0, .slice none 0 0, .slice none 0 0, .slice none 0 0, .slice none 0 0, .slice none 0 0, .slice none 0 0], Value.slice none 0 0, Value.slice none 0 0].toList 8 = some ([.agg [.lit (.int .i64 0), .lit (.int .i64 0), .lit (.int .i64 0), .lit (.int .i64 0), .lit (.string []), .lit (.bool false), .nil, .nil, .nil, .nil, .nil, .nil, .nil], .nil, .nil], [], places) :=
  ⟨[], by kernel_rfl⟩
set_option maxRecDepth 100000 in
theorem liftedUpto (os : Os) (started : os.Started) (H : Type) (enc : TypeId × Value → H) (F : Stop.Interp) :
    ReturnsInHanded {} Tryz.checked os 7 .any ((Rows.OpenSpec.upto Rows.joinHeldSpec).preRow enc Tryz.prog Tryz.f7 Rows.joinHeldUptoRow.domain false Rows.joinHeldUptoRow.laid) (((Rows.OpenSpec.upto Rows.joinHeldSpec).at F).post enc Tryz.prog Tryz.f7 false true false false) := by
  obtain ⟨places, hx⟩ := reads os enc
  refine returnsInHanded_of_row (C := Tryz.checked) (s := Rows.OpenSpec.upto Rows.joinHeldSpec) own started (by kernel_rfl) Tryz.func7
    (witness_row_at (enc := enc) (C := Tryz.checked) false (laidWorld os) #[.agg #[.int .i64 0, .int .i64 0, .int .i64 0, .int .i64 0, .string ⟨#[]⟩, .bool false, .slice none 0 0, .slice none 0 0, .slice none 0 0, .slice none 0 0, .slice none 0 0, .slice none 0 0, .slice none 0 0], .slice none 0 0, .slice none 0 0] rfl (by kernel_rfl) (by kernel_rfl) (by kernel_rfl)
      (OpenSpec.preRow_of_cond 8 hx (by kernel_rfl) (fun k hk => by cases hk; kernel_rfl) (by kernel_rfl) (laid_met os))) ?_
  intro W base args ds gs before hval hW _ hcond _ _ hS _
  exact contract H enc W base args ds gs before hval hW (hcond _ rfl) hS
theorem and_t {a b : Bool} (ha : a = true) (hb : b = true) : (a && b) = true := by rw [ha, hb]; rfl
theorem fact_1 : (Rows.joinHeldUptoRow.wf (OpenSpec.ofChange ((Rows.OpenSpec.upto Rows.joinHeldSpec).bare))) = true := by kernel_rfl
theorem fact_2 : (laidOutB Tryz.pinned.checked.prog) = true := by kernel_rfl
theorem fact_3 : (mapsRowed Tryz.pinned.checked.prog) = true := by kernel_rfl
theorem fact_4 : (Tryz.f7.params.all (Tryz.pinned.checked.prog.readableRec ·)) = true := by kernel_rfl
theorem fact_5 : (namedTie Tryz.pinned.checked.prog Rows.joinHeldUptoRow.named ((Rows.OpenSpec.upto Rows.joinHeldSpec).bare).vars) = true := by kernel_rfl
theorem fact_6 : ((Rows.joinHeldUptoRow.stops == [])) = true := by kernel_rfl
theorem fact_7 : ((Tryz.pinned.checked.prog.stops == [])) = true := by kernel_rfl
theorem fact_8 : ((Rows.joinHeldUptoRow.knobs == [])) = true := by kernel_rfl
theorem fact_9 : ((Tryz.pinned.checked.prog.stopKnobs == [])) = true := by kernel_rfl
theorem fact_10 : ((Rows.joinHeldUptoRow.inPlace == Tryz.pinned.checked.prog.inPlace 7)) = true := by kernel_rfl
theorem fact_11 : ((Rows.joinHeldUptoRow.unfollowed == Tryz.pinned.checked.prog.unfollowed 7)) = true := by kernel_rfl
theorem fact_12 : ((Rows.joinHeldUptoRow.recurses == Tryz.pinned.checked.prog.recurses 7)) = true := by kernel_rfl
theorem fact_13 : ((Rows.joinHeldUptoRow.named == Tryz.pinned.checked.prog.varsNamed 7)) = true := by kernel_rfl
theorem fact_14 : ((Rows.joinHeldUptoRow.maps == (Tryz.f7.params.toList ++ (Rows.OpenSpec.upto Rows.joinHeldSpec).bare.plain.varTypes Tryz.pinned.checked.prog).any (Tryz.pinned.checked.prog.mapsRec ·))) = true := by kernel_rfl
theorem fact_15 : ((Rows.joinHeldUptoRow.ifaces == (Tryz.f7.params.toList ++ (Rows.OpenSpec.upto Rows.joinHeldSpec).bare.plain.varTypes Tryz.pinned.checked.prog).any (Tryz.pinned.checked.prog.ifacesRec ·))) = true := by kernel_rfl
theorem fact_16 : ((Rows.joinHeldUptoRow.mapsOut == Tryz.pinned.checked.prog.mapsAmong Tryz.f7.resultTypes.toList)) = true := by kernel_rfl
theorem fact_17 : ((Rows.joinHeldUptoRow.loops == (Tryz.f7.params.toList ++ (Rows.OpenSpec.upto Rows.joinHeldSpec).bare.plain.varTypes Tryz.pinned.checked.prog).any (Tryz.pinned.checked.prog.loopsFrom ·))) = true := by kernel_rfl
theorem fact_18 : ((Rows.joinHeldUptoRow.wideKeys == (Tryz.f7.params.toList ++ (Rows.OpenSpec.upto Rows.joinHeldSpec).bare.plain.varTypes Tryz.pinned.checked.prog ++ Tryz.f7.resultTypes.toList).any (Tryz.pinned.checked.prog.wideKeysFrom ·))) = true := by kernel_rfl
theorem fact_19 : (((Rows.OpenSpec.upto Rows.joinHeldSpec).bare).vars.all (Tryz.pinned.checked.prog.varReadable ·)) = true := by kernel_rfl
theorem fact_20 : (Tryz.f7.resultTypes.all (fun t => Tryz.pinned.checked.prog.readableRec t && decide (t < Tryz.pinned.checked.prog.types.size))) = true := by kernel_rfl
theorem fact_21 : ((Rows.joinHeldUptoRow.ifacesOut == Tryz.f7.resultTypes.toList.any (Tryz.pinned.checked.prog.ifacesRec ·))) = true := by kernel_rfl
theorem fact_22 : ((Rows.joinHeldUptoRow.loopsOut == Tryz.f7.resultTypes.toList.any (Tryz.pinned.checked.prog.loopsFrom ·))) = true := by kernel_rfl
theorem fact_23 : ((Rows.joinHeldUptoRow.plainKeys == Tryz.pinned.checked.prog.plainKeys)) = true := by kernel_rfl
theorem fact_24 : (Rows.joinHeldUptoRow.shortTexts.isNone) = true := by kernel_rfl
theorem fact_25 : (Tryz.pinned.checked.prog.stopsHeard) = true := by kernel_rfl
theorem fact_26 : (Tryz.pinned.checked.prog.mayEnter) = true := by kernel_rfl
theorem fact_27 : ((Rows.joinHeldUptoRow.lifted == Tryz.pinned.checked.prog.liftsFinal)) = true := by kernel_rfl
theorem fact_28 : ((Tryz.pinned.checked.prog.make == some Rows.joinHeldUptoRow.make)) = true := by kernel_rfl
theorem fact_29 : ((Rows.joinHeldUptoRow.kinds == (if Rows.joinHeldUptoRow.domain.isEmpty then [] else Tryz.f7.params.toList.map fun t => match Tryz.pinned.checked.prog.underlying t with | some (.int k) => some k | _ => none))) = true := by kernel_rfl
theorem fact_30 : ((Rows.joinHeldUptoRow.pinned == Rows.joinHeldUptoRow.pinnedBy)) = true := by kernel_rfl
theorem fact_31 : ((Rows.joinHeldUptoRow.veiled == (Tryz.f7.params.toList ++ (Rows.OpenSpec.upto Rows.joinHeldSpec).bare.plain.varTypes Tryz.pinned.checked.prog ++ Tryz.f7.resultTypes.toList).any (Tryz.pinned.checked.prog.veiledRec ·))) = true := by kernel_rfl
theorem fact_32 : (Rows.joinHeldUptoRow.veiledFits Tryz.pinned.checked.prog Tryz.f7.params.toList (Tryz.f7.params.toList ++ (Rows.OpenSpec.upto Rows.joinHeldSpec).bare.plain.varTypes Tryz.pinned.checked.prog ++ Tryz.f7.resultTypes.toList)) = true := by kernel_rfl
set_option maxRecDepth 100000 in
theorem closed : joinedFacts Tryz.pinned.checked.prog 7 Tryz.f7 ((Rows.OpenSpec.upto Rows.joinHeldSpec).bare) Rows.joinHeldUptoRow = true := by
  unfold joinedFacts
  exact (and_t (and_t (and_t (and_t (and_t (and_t (and_t (and_t (and_t (and_t (and_t (and_t (and_t (and_t (and_t (and_t (and_t (and_t (and_t (and_t (and_t (and_t (and_t (and_t (and_t (and_t (and_t (and_t (and_t (and_t (and_t fact_1 fact_2) fact_3) fact_4) fact_5) fact_6) fact_7) fact_8) fact_9) fact_10) fact_11) fact_12) fact_13) fact_14) fact_15) fact_16) fact_17) fact_18) fact_19) fact_20) fact_21) fact_22) fact_23) fact_24) fact_25) fact_26) fact_27) fact_28) fact_29) fact_30) fact_31) fact_32)
theorem saidUpto : Rows.JoinHeldUptoSaid :=
  OpenClaim.holds_of_cond 7 Tryz.f7 rfl rfl rfl rfl rfl rfl rfl ⟨rfl, rfl, rfl, rfl, rfl⟩ rfl rfl rfl rfl rfl (by kernel_rfl) Tryz.func7 closed
    (of_decide_eq_true (by kernel_rfl)) (by unfold Func.isWrapper; first | (rw [if_pos (by decide +kernel)]; kernel_rfl) | (rw [if_neg (by decide +kernel)]; exact ⟨rfl, rfl⟩))
    (fun os started H enc _ F => by rw [OpenClaim.pre_eq_preRow]; exact liftedUpto os started H enc F)
theorem plain (f : FuncId) (fn : Func) (hf : Tryz.pinned.checked.prog.funcNamed "freshet/freshetlaw09.JoinHeld" = some f) (hfn : Tryz.pinned.checked.prog.funcs[f]? = some fn) :
    true = Tryz.pinned.checked.prog.looks [] ∧ ∀ (j : Nat) t, fn.params[j]? = some t → Tryz.pinned.checked.prog.wantsStandIn t = false := by
  obtain rfl : f = 7 := Option.some.inj ((show Tryz.prog.funcNamed "freshet/freshetlaw09.JoinHeld" = some 7 by kernel_rfl).symm.trans hf) |>.symm
  obtain rfl : fn = Tryz.f7 := (Option.some.inj (Tryz.func7.symm.trans hfn)).symm
  refine ⟨by kernel_rfl, fun j t ht => ?_⟩
  rw [Tryz.params7] at ht
  have h : t = 28 ∨ t = 22 ∨ t = 29 := by simpa using Array.mem_of_getElem? ht
  rcases h with rfl | rfl | rfl
  · exact (show Tryz.prog.wantsStandIn 28 = false by kernel_rfl)
  · exact (show Tryz.prog.wantsStandIn 22 = false by kernel_rfl)
  · exact (show Tryz.prog.wantsStandIn 29 = false by kernel_rfl)
/-- ████ THE SECOND FORM's CARD ████ -/
theorem cardUpto : Rows.JoinHeldUptoCardSaid :=
  Claim7.holds_tied_plain_at .later [] _ _ _ _ saidUpto (fun _ h => by cases h) (by kernel_rfl) (fun _ h => by cases h) joinHeldUpto_row_tie rfl ⟨rfl, rfl⟩ (by kernel_rfl) rfl plain (by kernel_rfl)
end Go.Proofs.YtflckpfpgpfjlaaGreatDoor.joinHeld
