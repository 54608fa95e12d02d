/- Lists of changes as arguments, opened. -/
import Derived.Test.YtmpndmjfdijamaaGreatDoorOpen2
import Derived.Test.YtmpndmjfdijamaaGreatDoorDelta
set_option linter.unusedVariables false
set_option linter.unusedSimpArgs false
namespace Go.Proofs.YtmpndmjfdijamaaGreatDoor
open Go.RowKit Go.Sort Go.ChangeShapes Go.WideShapes Go.Deep
theorem open_zs {H : Type} {enc : TypeId × Value → H} {w : World} {base : Nat} {spare : Nat → Bool} {held : Bool} {fuel : Nat} {cs : List Value} {x : DataW H × List MemPlace} (h : DataW.trod enc Tryz.prog w base spare held fuel 52 cs = some x) (hb : Rows.uptoBulk x.1 ≤ 1048576) : ∃ v r, cs = [v] ∧ RdD w AnyB v r := by
  rcases open_slice Tryz.underlying52 h with ⟨rfl, rfl⟩ | ⟨a, len, cap, m, n, D, Pl, rfl, hbb, hl, hm, hmm, rfl, hi⟩
  · exact ⟨_, [], rfl, RdL.nil _ _ _ _⟩
  · have hlm : len ≤ m := by rw [hmm]; split <;> omega
    have hsl : Rows.uptoBulkAll ((List.range len).map D) ≤ 1048576 := by
      simp only [Rows.uptoBulk] at hb
      omega
    have hlen : len ≤ 4294967296 := by
      have := bulk_length ((List.range len).map D)
      rw [List.length_map, List.length_range] at this
      omega
    have hC : Tryz.prog.cellsOf 35 = 1 := by kernel_rfl
    obtain ⟨xs, hxs⟩ := rdl_of (w := w) (E := EZ w AnyB) (sz := 1) (by decide) a len cap hl hlen fun j hj => by
      obtain ⟨cs', hc, ht'⟩ := hi j (by omega)
      rw [hC] at hc
      obtain ⟨_, hcl, hat⟩ := World.cells?_some hc
      have b2 : Rows.uptoBulk (D j) ≤ Rows.uptoBulkAll ((List.range len).map D) := bulk_part (List.mem_map_of_mem (List.mem_range.2 hj))
      obtain ⟨v, z, rfl, hz⟩ := open_ents ht' (Nat.le_trans b2 hsl)
      obtain ⟨A, c, rfl, _⟩ := hz.shape
      refine ⟨z, _, rfl, ⟨_, rfl, hz⟩, by simp [Value.oneCell'], fun i u hu => ?_⟩
      have hil : i < 1 := by have := (List.getElem?_eq_some_iff.1 hu).1; simpa using this
      rw [← Go.Deep.add_add, hat i hil, hu]
    exact ⟨_, xs, rfl, hxs⟩
end Go.Proofs.YtmpndmjfdijamaaGreatDoor
