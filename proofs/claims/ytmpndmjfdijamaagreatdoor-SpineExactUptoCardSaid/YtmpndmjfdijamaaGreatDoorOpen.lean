/- The arguments as the rows hand them over, opened to what the walks ask. -/
import Derived.Test.YtmpndmjfdijamaaGreatDoorAwake2
import Derived.Test.YtmpndmjfdijamaaGreatDoorCards
import Derived.Deep.Slices
import Derived.Deep.Fields
import Derived.ChangeSame
set_option linter.unusedVariables false
set_option linter.unusedSimpArgs false
namespace Go.Proofs.YtmpndmjfdijamaaGreatDoor
open Go.RowKit Go.Sort Go.ChangeShapes Go.WideShapes Go.Deep
theorem exists_list {α : Type} {P : Nat → α → Prop} : ∀ {n : Nat}, (∀ j, j < n → ∃ v, P j v) → ∃ vs : List α, vs.length = n ∧ ∀ j v, vs[j]? = some v → P j v
  | 0, _ => ⟨[], rfl, by simp⟩
  | n + 1, h => by
    obtain ⟨vs, h1, h2⟩ := exists_list (n := n) fun j hj => h j (by omega)
    obtain ⟨v, hv⟩ := h n (by omega)
    refine ⟨vs ++ [v], by simp [h1], fun j u hu => ?_⟩
    rcases Nat.lt_or_ge j vs.length with hj | hj
    · rw [List.getElem?_append_left hj] at hu; exact h2 j u hu
    · rw [List.getElem?_append_right hj] at hu
      have h0 : j - vs.length = 0 := by have := (List.getElem?_eq_some_iff.1 hu).1; simpa using this
      rw [h0] at hu
      have : j = n := by omega
      subst this
      have : v = u := by simpa using hu
      exact this ▸ hv
theorem bulk_one {H : Type} (d : DataW H) : 1 ≤ Rows.uptoBulk d := by
  cases d with
  | lit l => cases l <;> simp [Rows.uptoBulk]
  | _ => simp [Rows.uptoBulk]
theorem bulk_part {H : Type} {d : DataW H} {l : List (DataW H)} (h : d ∈ l) : Rows.uptoBulk d ≤ Rows.uptoBulkAll l := by
  induction l with
  | nil => cases h
  | cons x r ih =>
    rcases List.mem_cons.1 h with rfl | h
    · simp only [Rows.uptoBulkAll]; omega
    · have := ih h; simp only [Rows.uptoBulkAll]; omega
theorem bulk_length {H : Type} (l : List (DataW H)) : l.length ≤ Rows.uptoBulkAll l := by
  induction l with
  | nil => simp [Rows.uptoBulkAll]
  | cons x r ih => have := bulk_one x; simp only [Rows.uptoBulkAll, List.length_cons]; omega
theorem rdl_of {α : Type} {sz : Nat} {E : α → List Value → Prop} {w : World} (hsz : 0 < sz) (a : Addr) (len cap : Nat) (hl : len ≤ cap) (hl2 : len ≤ 4294967296)
    (h : ∀ j, j < len → ∃ x, ∃ cs : List Value, cs.length = sz ∧ E x cs ∧ (∀ u ∈ cs, u.oneCell' = true) ∧ ∀ i u, cs[i]? = some u → w.cell? (a.add (j * sz + i)) = some u) :
    ∃ xs, RdL sz E w AnyB (.slice (some a) len cap) xs := by
  obtain ⟨xs, hxl, hx⟩ := exists_list h
  subst hxl
  refine ⟨xs, _, cap, rfl, hl, hl2, fun hne => ?_⟩
  obtain ⟨x, hx0⟩ : ∃ x, xs[0]? = some x := ⟨_, List.getElem?_eq_getElem (List.length_pos_iff.2 hne)⟩
  obtain ⟨cs, e1, e2, e3, e4⟩ := hx 0 x hx0
  have hc := e4 0 cs[0] (List.getElem?_eq_getElem (by omega))
  rw [Nat.zero_mul, Nat.add_zero] at hc
  obtain ⟨b, o, s⟩ := a
  have hs : s = none ∧ ∃ cells t fr, w.heap[b]? = some (.cells cells t fr) := by
    have ha : ((⟨b, o, s⟩ : Addr).add 0).block = b ∧ ((⟨b, o, s⟩ : Addr).add 0).spot = s := by unfold Addr.add; split <;> simp_all
    unfold World.cell? at hc
    rw [ha.1, ha.2] at hc
    split at hc
    · next cells t fr hh =>
      split at hc
      · cases hc
      · next hn => exact ⟨by simpa using hn, cells, t, fr, hh⟩
    · cases hc
  obtain ⟨rfl, cells, t, fr, hh⟩ := hs
  refine ⟨b, o, cells, t, fr, rfl, Okf.any _ _ _, hh, fun j x hj => ?_⟩
  obtain ⟨cs, e1, e2, e3, e4⟩ := hx j x hj
  refine ⟨cs, e1, e2, e3, fun i u hu => ?_⟩
  have := e4 i u hu
  rw [add_lit, cell_of_row w b _ cells t fr hh, ← Nat.add_assoc] at this
  exact this
section
variable {H : Type} {enc : TypeId × Value → H} {w : World} {base : Nat} {spare : Nat → Bool} {held : Bool}
/-- A slice of structs of one-cell fields, each field told by its own reading. -/
theorem open_structs {α : Type} {sz : Nat} {E : α → List Value → Prop} {t e : TypeId} {fs : Array Field} {fuel : Nat} {cs : List Value} {x : DataW H × List MemPlace} (hsz : 0 < sz) (ht : Tryz.prog.underlying t = some (.slice e)) (he : Tryz.prog.underlying e = some (.struct fs))
    (hone : oneCellFields Tryz.prog fs = true) (hC : Tryz.prog.cellsOf e = sz) (hfs : fs.size = sz) (h : DataW.trod enc Tryz.prog w base spare held fuel t cs = some x) (hb : Rows.uptoBulk x.1 ≤ 1048576)
    (hE : ∀ (vs : List Value) (n : Nat), vs.length = sz → (∀ (j : Nat) (f : Field) (v : Value), fs[j]? = some f → vs[j]? = some v → ∃ y, DataW.trod enc Tryz.prog w base spare held n f.type [v] = some y ∧ Rows.uptoBulk y.1 ≤ 1048576) → ∃ q, E q vs ∧ ∀ u ∈ vs, u.oneCell' = true) :
    ∃ v xs, cs = [v] ∧ RdL sz E w AnyB v xs := by
  rcases open_slice ht h with ⟨rfl, rfl⟩ | ⟨a, len, cap, m, n, D, Pl, rfl, hbb, hl, hm, hmm, rfl, hi⟩
  · exact ⟨_, [], rfl, RdL.nil _ _ _ _⟩
  · have hlm : len ≤ m := by rw [hmm]; split <;> omega
    have hsl : Rows.uptoBulkAll ((List.range len).map D) ≤ 1048576 := by
      simp only [Rows.uptoBulk] at hb
      omega
    have hlen : len ≤ 4294967296 := by
      have := bulk_length ((List.range len).map D)
      rw [List.length_map, List.length_range] at this
      omega
    obtain ⟨xs, hxs⟩ := rdl_of (w := w) (E := E) hsz a len cap hl hlen fun j hj => by
      obtain ⟨cs', hc, ht'⟩ := hi j (by omega)
      rw [hC] at hc
      obtain ⟨ys, n', hn', hy, hlen', hyl, hf⟩ := DataW.trod_struct he ht'
      obtain ⟨_, hcl, hat⟩ := World.cells?_some hc
      simp only [Prod.mk.injEq] at hy
      obtain ⟨q, hq, h1⟩ := hE cs' n' hcl fun i f v hif hiv => by
        obtain ⟨ho, hk⟩ := hone_of hone i f hif
        have hil : i < fs.size := (Array.getElem?_eq_some_iff.1 hif).1
        have h1 := hf i f hif
        rw [ho, hk] at h1
        have hone' : (cs'.drop i).take 1 = [v] := by
          obtain ⟨hlt, rfl⟩ := List.getElem?_eq_some_iff.1 hiv
          rw [List.drop_eq_getElem_cons hlt]
          rfl
        rw [hone'] at h1
        have hys : ys[i]? = some (ys[i]'(by omega)) := List.getElem?_eq_getElem (by omega)
        refine ⟨_, h1.trans hys, ?_⟩
        have b1 : Rows.uptoBulk (ys[i]'(by omega)).1 ≤ Rows.uptoBulkAll (ys.map (·.1)) := bulk_part (List.mem_map_of_mem (List.getElem_mem _))
        have b2 : Rows.uptoBulk (D j) ≤ Rows.uptoBulkAll ((List.range len).map D) := bulk_part (List.mem_map_of_mem (List.mem_range.2 hj))
        rw [hy.1] at b2
        simp only [Rows.uptoBulk] at b2
        omega
      refine ⟨q, cs', hcl, hq, h1, fun i u hu => ?_⟩
      have hil : i < sz := by have := (List.getElem?_eq_some_iff.1 hu).1; omega
      rw [← Go.Deep.add_add, hat i hil, hu]
    exact ⟨_, xs, rfl, hxs⟩
end
end Go.Proofs.YtmpndmjfdijamaaGreatDoor
