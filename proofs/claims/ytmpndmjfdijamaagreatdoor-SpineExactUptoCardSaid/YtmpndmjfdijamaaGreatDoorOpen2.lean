/- The arguments of the laws of spines, opened. -/
import Derived.Test.YtmpndmjfdijamaaGreatDoorOpen
import Derived.Test.YtmpndmjfdijamaaGreatDoorAct
set_option linter.unusedVariables false
set_option linter.unusedSimpArgs false
namespace Go.Proofs.YtmpndmjfdijamaaGreatDoor
open Go.RowKit Go.Sort Go.ChangeShapes Go.WideShapes Go.Deep
section
variable {H : Type} {enc : TypeId × Value → H} {w : World} {base : Nat} {spare : Nat → Bool} {held : Bool} {fuel : Nat} {cs : List Value} {x : DataW H × List MemPlace}
theorem wf_i64 {n : Int} (h : (Lit.int .i64 n).wf = true) : i64 n := by
  unfold i64
  simp [Lit.wf, IntKind.wrap, IntKind.bits, IntKind.signed, IntKind.min, IntKind.max] at h
  omega
theorem wf_u64 {n : Int} (h : (Lit.int .u64 n).wf = true) : u64 n := by
  unfold u64
  simp [Lit.wf, IntKind.wrap, IntKind.bits, IntKind.signed, IntKind.min, IntKind.max] at h
  omega
theorem open_vals (h : DataW.trod enc Tryz.prog w base spare held fuel 25 cs = some x) (hb : Rows.uptoBulk x.1 ≤ 1048576) : ∃ v r, cs = [v] ∧ RdV w AnyB v r := by
  refine open_structs (sz := 4) (by decide) Tryz.underlying25 Tryz.underlying55 (by kernel_rfl) (by kernel_rfl) rfl h hb fun vs n hl hf => ?_
  match vs, hl with
  | [v0, v1, v2, v3], _ =>
    obtain ⟨y0, t0, _⟩ := hf 0 _ v0 rfl rfl
    obtain ⟨y1, t1, _⟩ := hf 1 _ v1 rfl rfl
    obtain ⟨y2, t2, _⟩ := hf 2 _ v2 rfl rfl
    obtain ⟨y3, t3, _⟩ := hf 3 _ v3 rfl rfl
    obtain ⟨k, hk, _, wk⟩ := DataW.trod_int Tryz.underlying3 t0
    obtain ⟨m, hm, _, wm⟩ := DataW.trod_int Tryz.underlying3 t1
    obtain ⟨f, hf', _, wf'⟩ := DataW.trod_int Tryz.underlying53 t2
    obtain ⟨s, hs, _, ws⟩ := DataW.trod_string Tryz.underlying9 t3
    simp only [List.cons.injEq, and_true] at hk hm hf' hs
    subst hk hm hf' hs
    exact ⟨⟨k, m, f, s⟩, ⟨rfl, ⟨wf_i64 wk, wf_i64 wm, wf_u64 wf', by unfold maxLen at ws; omega⟩⟩, by simp [Value.oneCell']⟩
theorem open_ents (h : DataW.trod enc Tryz.prog w base spare held fuel 35 cs = some x) (hb : Rows.uptoBulk x.1 ≤ 1048576) : ∃ v z, cs = [v] ∧ RdZ w AnyB v z := by
  refine open_structs (sz := 2) (by decide) Tryz.underlying35 Tryz.underlying47 (by kernel_rfl) (by kernel_rfl) rfl h hb fun vs n hl hf => ?_
  match vs, hl with
  | [v0, v1], _ =>
    obtain ⟨y0, t0, b0⟩ := hf 0 _ v0 rfl rfl
    obtain ⟨y1, t1, _⟩ := hf 1 _ v1 rfl rfl
    obtain ⟨v, r, hv, hr⟩ := open_vals t0 b0
    obtain ⟨k, hk, _, wk⟩ := DataW.trod_int Tryz.underlying3 t1
    simp only [List.cons.injEq, and_true] at hv hk
    subst hv hk
    obtain ⟨A, c, hv, _⟩ := hr.shape
    exact ⟨⟨r, k⟩, ⟨_, rfl, wf_i64 wk, hr⟩, by subst hv; simp [Value.oneCell']⟩
theorem open_acts (h : DataW.trod enc Tryz.prog w base spare held fuel 23 cs = some x) (hb : Rows.uptoBulk x.1 ≤ 1048576) : ∃ v z, cs = [v] ∧ RdA w AnyB v z := by
  refine open_structs (sz := 2) (by decide) Tryz.underlying23 Tryz.underlying37 (by kernel_rfl) (by kernel_rfl) rfl h hb fun vs n hl hf => ?_
  match vs, hl with
  | [v0, v1], _ =>
    obtain ⟨y0, t0, b0⟩ := hf 0 _ v0 rfl rfl
    obtain ⟨y1, t1, _⟩ := hf 1 _ v1 rfl rfl
    obtain ⟨v, z, hv, hr⟩ := open_ents t0 b0
    obtain ⟨p, hp, _⟩ := DataW.trod_bool Tryz.underlying4 t1
    simp only [List.cons.injEq, and_true] at hv hp
    subst hv hp
    obtain ⟨A, c, hv, _⟩ := hr.shape
    exact ⟨⟨z, p⟩, ⟨_, rfl, hr⟩, by subst hv; simp [Value.oneCell']⟩
theorem open_ints (h : DataW.trod enc Tryz.prog w base spare held fuel 22 cs = some x) (hb : Rows.uptoBulk x.1 ≤ 1048576) : ∃ v r, cs = [v] ∧ RdI w AnyB v r := by
  rcases open_slice Tryz.underlying22 h with ⟨rfl, rfl⟩ | ⟨a, len, cap, m, n, D, Pl, rfl, hbb, hl, hm, hmm, rfl, hi⟩
  · exact ⟨_, [], rfl, RdL.nil _ _ _ _⟩
  · have hlm : len ≤ m := by rw [hmm]; split <;> omega
    have hlen : len ≤ 4294967296 := by
      have := bulk_length ((List.range len).map D)
      rw [List.length_map, List.length_range] at this
      simp only [Rows.uptoBulk] at hb
      omega
    have hC : Tryz.prog.cellsOf 3 = 1 := by kernel_rfl
    obtain ⟨xs, hxs⟩ := rdl_of (w := w) (E := EI) (sz := 1) (by decide) a len cap hl hlen fun j hj => by
      obtain ⟨cs', hc, ht'⟩ := hi j (by omega)
      rw [hC] at hc
      obtain ⟨_, hcl, hat⟩ := World.cells?_some hc
      obtain ⟨k, rfl, _, wk⟩ := DataW.trod_int Tryz.underlying3 ht'
      refine ⟨k, _, rfl, ⟨rfl, wf_i64 wk⟩, by simp [Value.oneCell'], fun i u hu => ?_⟩
      have hil : i < 1 := by have := (List.getElem?_eq_some_iff.1 hu).1; simpa using this
      rw [← Go.Deep.add_add, hat i hil, hu]
    exact ⟨_, xs, rfl, hxs⟩
end
end Go.Proofs.YtmpndmjfdijamaaGreatDoor
