/- The arguments as the rows hand them over, opened to what the walks ask. The acts of the laws of spines, as they lie in memory. The arguments of the laws of spines, opened. Lists of changes, as they lie in memory; a spine that takes them one by one. Lists of changes as arguments, opened. Plans in memory, and the walks of the reference's Great, size and bulk. The walk of the law's vast. A plan's node and lists of steps as arguments, opened. -/
import Derived.Test.YtflckpfpgpfjlaaGreatDoorMTold
import Derived.Test.YtflckpfpgpfjlaaGreatDoorCards
import Derived.Deep.Slices
import Derived.Deep.Fields
import Derived.ChangeSame
import Derived.Test.YtflckpfpgpfjlaaGreatDoorMBase
import Derived.BigQuiet
set_option linter.unusedVariables false
set_option linter.unusedSimpArgs false
section
namespace Go.Proofs.YtflckpfpgpfjlaaGreatDoor
open Go.RowKit Go.Sort Go.ChangeShapes Go.WideShapes Go.Deep
theorem exists_list {α : Type} {P : Nat → α → Prop} : ∀ {n : Nat}, (∀ j, j < n → ∃ v, P j v) → ∃ vs : List α, vs.length = n ∧ ∀ j v, vs[j]? = some v → P j v
  | 0, _ => ⟨[], rfl, by simp⟩
  | n + 1, h => by
    obtain ⟨vs, h1, h2⟩ := exists_list (n := n) fun j hj => h j (by omega)
    obtain ⟨v, hv⟩ := h n (by omega)
    refine ⟨vs ++ [v], by simp [h1], fun j u hu => ?_⟩
    rcases Nat.lt_or_ge j vs.length with hj | hj
    · rw [List.getElem?_append_left hj] at hu; exact h2 j u hu
    · rw [List.getElem?_append_right hj] at hu
      have h0 : j - vs.length = 0 := by have := (List.getElem?_eq_some_iff.1 hu).1; simpa using this
      rw [h0] at hu
      have : j = n := by omega
      subst this
      have : v = u := by simpa using hu
      exact this ▸ hv
theorem bulk_one {H : Type} (d : DataW H) : 1 ≤ Rows.uptoBulk d := by
  cases d with
  | lit l => cases l <;> simp [Rows.uptoBulk]
  | _ => simp [Rows.uptoBulk]
theorem bulk_part {H : Type} {d : DataW H} {l : List (DataW H)} (h : d ∈ l) : Rows.uptoBulk d ≤ Rows.uptoBulkAll l := by
  induction l with
  | nil => cases h
  | cons x r ih =>
    rcases List.mem_cons.1 h with rfl | h
    · simp only [Rows.uptoBulkAll]; omega
    · have := ih h; simp only [Rows.uptoBulkAll]; omega
theorem bulk_length {H : Type} (l : List (DataW H)) : l.length ≤ Rows.uptoBulkAll l := by
  induction l with
  | nil => simp [Rows.uptoBulkAll]
  | cons x r ih => have := bulk_one x; simp only [Rows.uptoBulkAll, List.length_cons]; omega
theorem rdl_of {α : Type} {sz : Nat} {E : α → List Value → Prop} {w : World} (hsz : 0 < sz) (a : Addr) (len cap : Nat) (hl : len ≤ cap) (hl2 : len ≤ 4294967296)
    (h : ∀ j, j < len → ∃ x, ∃ cs : List Value, cs.length = sz ∧ E x cs ∧ (∀ u ∈ cs, u.oneCell' = true) ∧ ∀ i u, cs[i]? = some u → w.cell? (a.add (j * sz + i)) = some u) :
    ∃ xs, RdL sz E w AnyB (.slice (some a) len cap) xs := by
  obtain ⟨xs, hxl, hx⟩ := exists_list h
  subst hxl
  refine ⟨xs, _, cap, rfl, hl, hl2, fun hne => ?_⟩
  obtain ⟨x, hx0⟩ : ∃ x, xs[0]? = some x := ⟨_, List.getElem?_eq_getElem (List.length_pos_iff.2 hne)⟩
  obtain ⟨cs, e1, e2, e3, e4⟩ := hx 0 x hx0
  have hc := e4 0 cs[0] (List.getElem?_eq_getElem (by omega))
  rw [Nat.zero_mul, Nat.add_zero] at hc
  obtain ⟨b, o, s⟩ := a
  have hs : s = none ∧ ∃ cells t fr, w.heap[b]? = some (.cells cells t fr) := by
    have ha : ((⟨b, o, s⟩ : Addr).add 0).block = b ∧ ((⟨b, o, s⟩ : Addr).add 0).spot = s := by unfold Addr.add; split <;> simp_all
    unfold World.cell? at hc
    rw [ha.1, ha.2] at hc
    split at hc
    · next cells t fr hh =>
      split at hc
      · cases hc
      · next hn => exact ⟨by simpa using hn, cells, t, fr, hh⟩
    · cases hc
  obtain ⟨rfl, cells, t, fr, hh⟩ := hs
  refine ⟨b, o, cells, t, fr, rfl, Okf.any _ _ _, hh, fun j x hj => ?_⟩
  obtain ⟨cs, e1, e2, e3, e4⟩ := hx j x hj
  refine ⟨cs, e1, e2, e3, fun i u hu => ?_⟩
  have := e4 i u hu
  rw [add_lit, cell_of_row w b _ cells t fr hh, ← Nat.add_assoc] at this
  exact this
section
variable {H : Type} {enc : TypeId × Value → H} {w : World} {base : Nat} {spare : Nat → Bool} {held : Bool}
theorem open_structs {α : Type} {sz : Nat} {E : α → List Value → Prop} {t e : TypeId} {fs : Array Field} {fuel : Nat} {cs : List Value} {x : DataW H × List MemPlace} (hsz : 0 < sz) (ht : Tryz.prog.underlying t = some (.slice e)) (he : Tryz.prog.underlying e = some (.struct fs))
    (hone : oneCellFields Tryz.prog fs = true) (hC : Tryz.prog.cellsOf e = sz) (hfs : fs.size = sz) (h : DataW.trod enc Tryz.prog w base spare held fuel t cs = some x) (hb : Rows.uptoBulk x.1 ≤ 1048576)
    (hE : ∀ (vs : List Value) (n : Nat), vs.length = sz → (∀ (j : Nat) (f : Field) (v : Value), fs[j]? = some f → vs[j]? = some v → ∃ y, DataW.trod enc Tryz.prog w base spare held n f.type [v] = some y ∧ Rows.uptoBulk y.1 ≤ 1048576) → ∃ q, E q vs ∧ ∀ u ∈ vs, u.oneCell' = true) :
    ∃ v xs, cs = [v] ∧ RdL sz E w AnyB v xs := by
  rcases open_slice ht h with ⟨rfl, rfl⟩ | ⟨a, len, cap, m, n, D, Pl, rfl, hbb, hl, hm, hmm, rfl, hi⟩
  · exact ⟨_, [], rfl, RdL.nil _ _ _ _⟩
  · have hlm : len ≤ m := by rw [hmm]; split <;> omega
    have hsl : Rows.uptoBulkAll ((List.range len).map D) ≤ 1048576 := by
      simp only [Rows.uptoBulk] at hb
      omega
    have hlen : len ≤ 4294967296 := by
      have := bulk_length ((List.range len).map D)
      rw [List.length_map, List.length_range] at this
      omega
    obtain ⟨xs, hxs⟩ := rdl_of (w := w) (E := E) hsz a len cap hl hlen fun j hj => by
      obtain ⟨cs', hc, ht'⟩ := hi j (by omega)
      rw [hC] at hc
      obtain ⟨ys, n', hn', hy, hlen', hyl, hf⟩ := DataW.trod_struct he ht'
      obtain ⟨_, hcl, hat⟩ := World.cells?_some hc
      simp only [Prod.mk.injEq] at hy
      obtain ⟨q, hq, h1⟩ := hE cs' n' hcl fun i f v hif hiv => by
        obtain ⟨ho, hk⟩ := hone_of hone i f hif
        have hil : i < fs.size := (Array.getElem?_eq_some_iff.1 hif).1
        have h1 := hf i f hif
        rw [ho, hk] at h1
        have hone' : (cs'.drop i).take 1 = [v] := by
          obtain ⟨hlt, rfl⟩ := List.getElem?_eq_some_iff.1 hiv
          rw [List.drop_eq_getElem_cons hlt]
          rfl
        rw [hone'] at h1
        have hys : ys[i]? = some (ys[i]'(by omega)) := List.getElem?_eq_getElem (by omega)
        refine ⟨_, h1.trans hys, ?_⟩
        have b1 : Rows.uptoBulk (ys[i]'(by omega)).1 ≤ Rows.uptoBulkAll (ys.map (·.1)) := bulk_part (List.mem_map_of_mem (List.getElem_mem _))
        have b2 : Rows.uptoBulk (D j) ≤ Rows.uptoBulkAll ((List.range len).map D) := bulk_part (List.mem_map_of_mem (List.mem_range.2 hj))
        rw [hy.1] at b2
        simp only [Rows.uptoBulk] at b2
        omega
      refine ⟨q, cs', hcl, hq, h1, fun i u hu => ?_⟩
      have hil : i < sz := by have := (List.getElem?_eq_some_iff.1 hu).1; omega
      rw [← Go.Deep.add_add, hat i hil, hu]
    exact ⟨_, xs, rfl, hxs⟩
end
end Go.Proofs.YtflckpfpgpfjlaaGreatDoor
end
section
namespace Go.Proofs.YtflckpfpgpfjlaaGreatDoor
open Go.RowKit Go.Sort
end Go.Proofs.YtflckpfpgpfjlaaGreatDoor
end
section
namespace Go.Proofs.YtflckpfpgpfjlaaGreatDoor
open Go.RowKit Go.Sort Go.ChangeShapes Go.WideShapes Go.Deep
section
variable {H : Type} {enc : TypeId × Value → H} {w : World} {base : Nat} {spare : Nat → Bool} {held : Bool} {fuel : Nat} {cs : List Value} {x : DataW H × List MemPlace}
theorem wf_i64 {n : Int} (h : (Lit.int .i64 n).wf = true) : i64 n := by
  unfold i64
  simp [Lit.wf, IntKind.wrap, IntKind.bits, IntKind.signed, IntKind.min, IntKind.max] at h
  omega
theorem wf_u64 {n : Int} (h : (Lit.int .u64 n).wf = true) : u64 n := by
  unfold u64
  simp [Lit.wf, IntKind.wrap, IntKind.bits, IntKind.signed, IntKind.min, IntKind.max] at h
  omega
theorem open_vals (h : DataW.trod enc Tryz.prog w base spare held fuel 64 cs = some x) (hb : Rows.uptoBulk x.1 ≤ 1048576) : ∃ v r, cs = [v] ∧ RdV w AnyB v r := by
  refine open_structs (sz := 4) (by decide) Tryz.underlying64 Tryz.underlying96 (by kernel_rfl) (by kernel_rfl) rfl h hb fun vs n hl hf => ?_
  match vs, hl with
  | [v0, v1, v2, v3], _ =>
    obtain ⟨y0, t0, _⟩ := hf 0 _ v0 rfl rfl
    obtain ⟨y1, t1, _⟩ := hf 1 _ v1 rfl rfl
    obtain ⟨y2, t2, _⟩ := hf 2 _ v2 rfl rfl
    obtain ⟨y3, t3, _⟩ := hf 3 _ v3 rfl rfl
    obtain ⟨k, hk, _, wk⟩ := DataW.trod_int Tryz.underlying3 t0
    obtain ⟨m, hm, _, wm⟩ := DataW.trod_int Tryz.underlying3 t1
    obtain ⟨f, hf', _, wf'⟩ := DataW.trod_int Tryz.underlying94 t2
    obtain ⟨s, hs, _, ws⟩ := DataW.trod_string Tryz.underlying9 t3
    simp only [List.cons.injEq, and_true] at hk hm hf' hs
    subst hk hm hf' hs
    exact ⟨⟨k, m, f, s⟩, ⟨rfl, ⟨wf_i64 wk, wf_i64 wm, wf_u64 wf', by unfold maxLen at ws; omega⟩⟩, by simp [Value.oneCell']⟩
theorem open_ents (h : DataW.trod enc Tryz.prog w base spare held fuel 35 cs = some x) (hb : Rows.uptoBulk x.1 ≤ 1048576) : ∃ v z, cs = [v] ∧ RdZ w AnyB v z := by
  refine open_structs (sz := 2) (by decide) Tryz.underlying35 Tryz.underlying66 (by kernel_rfl) (by kernel_rfl) rfl h hb fun vs n hl hf => ?_
  match vs, hl with
  | [v0, v1], _ =>
    obtain ⟨y0, t0, b0⟩ := hf 0 _ v0 rfl rfl
    obtain ⟨y1, t1, _⟩ := hf 1 _ v1 rfl rfl
    obtain ⟨v, r, hv, hr⟩ := open_vals t0 b0
    obtain ⟨k, hk, _, wk⟩ := DataW.trod_int Tryz.underlying3 t1
    simp only [List.cons.injEq, and_true] at hv hk
    subst hv hk
    obtain ⟨A, c, hv, _⟩ := hr.shape
    exact ⟨⟨r, k⟩, ⟨_, rfl, wf_i64 wk, hr⟩, by subst hv; simp [Value.oneCell']⟩
theorem open_ints (h : DataW.trod enc Tryz.prog w base spare held fuel 22 cs = some x) (hb : Rows.uptoBulk x.1 ≤ 1048576) : ∃ v r, cs = [v] ∧ RdI w AnyB v r := by
  rcases open_slice Tryz.underlying22 h with ⟨rfl, rfl⟩ | ⟨a, len, cap, m, n, D, Pl, rfl, hbb, hl, hm, hmm, rfl, hi⟩
  · exact ⟨_, [], rfl, RdL.nil _ _ _ _⟩
  · have hlm : len ≤ m := by rw [hmm]; split <;> omega
    have hlen : len ≤ 4294967296 := by
      have := bulk_length ((List.range len).map D)
      rw [List.length_map, List.length_range] at this
      simp only [Rows.uptoBulk] at hb
      omega
    have hC : Tryz.prog.cellsOf 3 = 1 := by kernel_rfl
    obtain ⟨xs, hxs⟩ := rdl_of (w := w) (E := EI) (sz := 1) (by decide) a len cap hl hlen fun j hj => by
      obtain ⟨cs', hc, ht'⟩ := hi j (by omega)
      rw [hC] at hc
      obtain ⟨_, hcl, hat⟩ := World.cells?_some hc
      obtain ⟨k, rfl, _, wk⟩ := DataW.trod_int Tryz.underlying3 ht'
      refine ⟨k, _, rfl, ⟨rfl, wf_i64 wk⟩, by simp [Value.oneCell'], fun i u hu => ?_⟩
      have hil : i < 1 := by have := (List.getElem?_eq_some_iff.1 hu).1; simpa using this
      rw [← Go.Deep.add_add, hat i hil, hu]
    exact ⟨_, xs, rfl, hxs⟩
end
end Go.Proofs.YtflckpfpgpfjlaaGreatDoor
end
section
namespace Go.Proofs.YtflckpfpgpfjlaaGreatDoor
open Go.RowKit Go.Sort
def EZ (w : World) (ok : Blk) (d : List GE) (cs : List Value) : Prop := ∃ v, cs = [v] ∧ RdZ w ok v d
abbrev RdD (w : World) (ok : Blk) (v : Value) (ds : List (List GE)) : Prop := RdL 1 (EZ w ok) w ok v ds
theorem RdD.ext {w w' : World} {ok : Blk} {v : Value} {z : List (List GE)} (h : RdD w ok v z) (hb : Below w.heap.size w w') : RdD w' ok v z :=
  RdL.move h (fun _ _ ⟨v, h1, h2⟩ => ⟨v, h1, h2.ext hb⟩) (Stays.below hb ok)
theorem RdD.delta {w : World} {ok : Blk} {v : Value} {z : List (List GE)} (h : RdD w ok v z) {j : Nat} {x : List GE} (hj : z[j]? = some x) : ∃ b o c A d, v = .slice (some ⟨b, o, none⟩) z.length c ∧ b < w.heap.size ∧
    RdZ w ok (.slice A x.length d) x ∧ w.cell? ⟨b, o + j, none⟩ = some (.slice A x.length d) := by
  obtain ⟨b, o, c, hv, hb, cs, _, ⟨u, rfl, hr⟩, _, hc⟩ := h.at hj
  obtain ⟨A, d, rfl, _⟩ := hr.shape
  exact ⟨b, o, c, A, d, hv, hb, hr, by simpa using hc 0 _ rfl⟩
end Go.Proofs.YtflckpfpgpfjlaaGreatDoor
end
section
namespace Go.Proofs.YtflckpfpgpfjlaaGreatDoor
open Go.RowKit Go.Sort Go.ChangeShapes Go.WideShapes Go.Deep
theorem open_zs {H : Type} {enc : TypeId × Value → H} {w : World} {base : Nat} {spare : Nat → Bool} {held : Bool} {fuel : Nat} {cs : List Value} {x : DataW H × List MemPlace} (h : DataW.trod enc Tryz.prog w base spare held fuel 36 cs = some x) (hb : Rows.uptoBulk x.1 ≤ 1048576) : ∃ v r, cs = [v] ∧ RdD w AnyB v r := by
  rcases open_slice Tryz.underlying36 h with ⟨rfl, rfl⟩ | ⟨a, len, cap, m, n, D, Pl, rfl, hbb, hl, hm, hmm, rfl, hi⟩
  · exact ⟨_, [], rfl, RdL.nil _ _ _ _⟩
  · have hlm : len ≤ m := by rw [hmm]; split <;> omega
    have hsl : Rows.uptoBulkAll ((List.range len).map D) ≤ 1048576 := by
      simp only [Rows.uptoBulk] at hb
      omega
    have hlen : len ≤ 4294967296 := by
      have := bulk_length ((List.range len).map D)
      rw [List.length_map, List.length_range] at this
      omega
    have hC : Tryz.prog.cellsOf 35 = 1 := by kernel_rfl
    obtain ⟨xs, hxs⟩ := rdl_of (w := w) (E := EZ w AnyB) (sz := 1) (by decide) a len cap hl hlen fun j hj => by
      obtain ⟨cs', hc, ht'⟩ := hi j (by omega)
      rw [hC] at hc
      obtain ⟨_, hcl, hat⟩ := World.cells?_some hc
      have b2 : Rows.uptoBulk (D j) ≤ Rows.uptoBulkAll ((List.range len).map D) := bulk_part (List.mem_map_of_mem (List.mem_range.2 hj))
      obtain ⟨v, z, rfl, hz⟩ := open_ents ht' (Nat.le_trans b2 hsl)
      obtain ⟨A, c, rfl, _⟩ := hz.shape
      refine ⟨z, _, rfl, ⟨_, rfl, hz⟩, by simp [Value.oneCell'], fun i u hu => ?_⟩
      have hil : i < 1 := by have := (List.getElem?_eq_some_iff.1 hu).1; simpa using this
      rw [← Go.Deep.add_add, hat i hil, hu]
    exact ⟨_, xs, rfl, hxs⟩
end Go.Proofs.YtflckpfpgpfjlaaGreatDoor
end
section
namespace Go.Proofs.YtflckpfpgpfjlaaGreatDoor
open Go.RowKit Go.Sort
def EDo (s : ByteArray) (cs : List Value) : Prop := ∃ a b c d f, cs = [.int .i64 a, .int .i64 b, .int .i64 c, .int .i64 d, .int .u64 f, .string s]
def EX (w : World) (e : List ByteArray) (cs : List Value) : Prop := ∃ v, cs = [v] ∧ RdL 6 EDo w AnyB v e
abbrev RdX (w : World) (v : Value) (es : List (List ByteArray)) : Prop := RdL 1 (EX w) w AnyB v es
def Slice (v : Value) : Prop := ∃ A n c, v = .slice A n c
def NodeC (w : World) (P : Value → Prop) (cs : List Value) : Prop := ∃ (op a b n : Int) (name : ByteArray) (anti : Bool) (A1 A2 A3 A4 A5 A6 A7 : Option Addr) (c1 c2 c3 c4 l5 c5 l6 c6 c7 : Nat) (cols others kids : List Int) (es : List (List ByteArray)) (ps : List Value),
  cs = [.int .i64 op, .int .i64 a, .int .i64 b, .int .i64 n, .string name, .bool anti, .slice A1 cols.length c1, .slice A2 others.length c2, .slice A3 kids.length c3, .slice A4 es.length c4, .slice A5 l5 c5, .slice A6 l6 c6, .slice A7 ps.length c7] ∧
  (i64 op ∧ i64 a ∧ i64 b ∧ i64 n) ∧ RdI w AnyB (.slice A1 cols.length c1) cols ∧ RdI w AnyB (.slice A2 others.length c2) others ∧ RdI w AnyB (.slice A3 kids.length c3) kids ∧ RdX w (.slice A4 es.length c4) es ∧ RdL 1 (fun p cs => cs = [p] ∧ P p) w AnyB (.slice A7 ps.length c7) ps
def PlanAt (w : World) : Nat → Value → Prop
  | 0, v => Slice v
  | d + 1, v => ∃ ns : List (List Value), RdL 13 (fun n cs => n = cs ∧ NodeC w (PlanAt w d) cs) w AnyB v ns
theorem RdX.ext {w w' : World} {v : Value} {es : List (List ByteArray)} (h : RdX w v es) (hb : Below w.heap.size w w') : RdX w' v es :=
  RdL.move h (fun _ _ ⟨v, h1, h2⟩ => ⟨v, h1, RdL.move h2 (fun _ _ e => e) (Stays.below hb _)⟩) (Stays.below hb _)
theorem NodeC.ext {w w' : World} {P P' : Value → Prop} {cs : List Value} (h : NodeC w P cs) (hb : Below w.heap.size w w') (hP : ∀ v, P v → P' v) : NodeC w' P' cs := by
  obtain ⟨op, a, b, n, name, anti, A1, A2, A3, A4, A5, A6, A7, c1, c2, c3, c4, l5, c5, l6, c6, c7, cols, others, kids, es, ps, h1, h2, h3, h4, h5, h6, h7⟩ := h
  exact ⟨op, a, b, n, name, anti, A1, A2, A3, A4, A5, A6, A7, c1, c2, c3, c4, l5, c5, l6, c6, c7, cols, others, kids, es, ps, h1, h2, h3.ext hb, h4.ext hb, h5.ext hb, RdX.ext h6 hb, RdL.move h7 (fun _ _ ⟨e1, e2⟩ => ⟨e1, hP _ e2⟩) (Stays.below hb _)⟩
theorem PlanAt.ext {w w' : World} (hb : Below w.heap.size w w') : ∀ {d : Nat} {v : Value}, PlanAt w d v → PlanAt w' d v
  | 0, _, h => h
  | d + 1, v, ⟨ns, h⟩ => ⟨ns, RdL.move h (fun _ _ ⟨e1, e2⟩ => ⟨e1, e2.ext hb fun _ => PlanAt.ext hb⟩) (Stays.below hb _)⟩
theorem PlanAt.shape {w : World} {d : Nat} {v : Value} (h : PlanAt w d v) : Slice v := by
  cases d with
  | zero => exact h
  | succ d =>
    obtain ⟨ns, h⟩ := h
    obtain ⟨A, c, rfl, _⟩ := h.shape
    exact ⟨_, _, _, rfl⟩
theorem RdX.expr {w : World} {v : Value} {es : List (List ByteArray)} (h : RdX w v es) {j : Nat} {x : List ByteArray} (hj : es[j]? = some x) : ∃ b o c A d, v = .slice (some ⟨b, o, none⟩) es.length c ∧ b < w.heap.size ∧ RdL 6 EDo w AnyB (.slice A x.length d) x ∧ w.cell? ⟨b, o + j, none⟩ = some (.slice A x.length d) := by
  obtain ⟨b, o, c, hv, hb, cs, _, ⟨u, rfl, hr⟩, _, hc⟩ := h.at hj
  obtain ⟨A, d, rfl, _⟩ := hr.shape
  exact ⟨b, o, c, A, d, hv, hb, hr, by simpa using hc 0 _ rfl⟩
theorem doText {w : World} {v : Value} {e : List ByteArray} (h : RdL 6 EDo w AnyB v e) {j : Nat} {x : ByteArray} (hj : e[j]? = some x) : ∃ b o c, v = .slice (some ⟨b, o, none⟩) e.length c ∧ b < w.heap.size ∧ w.cell? ⟨b, o + j * 6 + 5, none⟩ = some (.string x) := by
  obtain ⟨b, o, c, hv, hb, cs, _, ⟨a1, a2, a3, a4, a5, rfl⟩, _, hc⟩ := h.at hj
  exact ⟨b, o, c, hv, hb, hc 5 _ rfl⟩
set_option maxRecDepth 100000 in
set_option maxHeartbeats 4000000 in
theorem r6bulk_any (P : Value → Prop) (cs : List Value) (w : World) (h : NodeC w P cs) : Calls Tryz.prog 86 #[.agg cs.toArray] w fun e w' => (∃ q, e = .returned (.int .i64 q)) ∧ Ext w w' := by
  obtain ⟨op, a, b, n, name, anti, A1, A2, A3, A4, A5, A6, A7, c1, c2, c3, c4, l5, c5, l6, c6, c7, cols, others, kids, es, ps, rfl, _, _, _, _, h6, _⟩ := h
  obtain ⟨W0, hW0⟩ : ∃ W0, W0 = w.alloc (.cells #[.int .i64 op, .int .i64 a, .int .i64 b, .int .i64 n, .string name, .bool anti, .slice A1 cols.length c1, .slice A2 others.length c2, .slice A3 kids.length c3, .slice A4 es.length c4, .slice A5 l5 c5, .slice A6 l6 c6, .slice A7 ps.length c7] 28) := ⟨_, rfl⟩
  have hE0 : Ext w W0 := hW0 ▸ Ext.alloc (Ext.refl w) _
  have hc9 : W0.cell? ⟨w.heap.size, 9, none⟩ = some (.slice A4 es.length c4) := by
    rw [hW0, Lib.cell_of_heap (heap_alloc_new w (.cells #[.int .i64 op, .int .i64 a, .int .i64 b, .int .i64 n, .string name, .bool anti, .slice A1 cols.length c1, .slice A2 others.length c2, .slice A3 kids.length c3, .slice A4 es.length c4, .slice A5 l5 c5, .slice A6 l6 c6, .slice A7 ps.length c7] 28))]; rfl
  have hx := RdX.ext h6 hE0.below
  have HX := As.mk hx
  have HE0 := As.mk hE0
  have hel := h6.len
  clear h6 hx hE0
  go_enter Tryz.func86, Tryz.ntmps86
  go_wp2_with fail
  rw [← hW0]
  clear hW0
  go_loopg [3, 4, 5] es.length (fun g s3 s4 _ wr => ∃ (i : Nat) (q : Int), i ≤ es.length ∧ es.length - i ≤ g ∧ s3 = .int .i64 q ∧ s4 = .int .i64 i ∧ W0 = wr)
  case atStart => exact ⟨0, _, Nat.zero_le _, by omega, rfl, rfl, rfl⟩
  case round =>
    obtain ⟨i, q, hi, hg, rfl, rfl, rfl⟩ := hrel
    by_cases hlt : i < es.length
    · have hltz : (i : Int) < (es.length : Int) := by omega
      by_cases hq : q < 1048576
      · obtain ⟨e, he⟩ : ∃ e, es[i]? = some e := ⟨_, List.getElem?_eq_getElem hlt⟩
        obtain ⟨b2, o2, c2', B, d, hv, hb2, hr, e0⟩ := RdX.expr HX.out he
        injection hv with hA _ hcc
        subst hA hcc
        have hrl := hr.len
        have HR := As.mk hr
        clear hr he
        go_wp2_with fail
        go_loopg [3, 5] e.length (fun g s3 s5 wr => ∃ (j : Nat) (p : Int), j ≤ e.length ∧ e.length - j ≤ g ∧ s3 = .int .i64 p ∧ s5 = .int .i64 j ∧ W0 = wr)
        case atStart => exact ⟨0, _, Nat.zero_le _, by omega, rfl, rfl, rfl⟩
        case round =>
          obtain ⟨j, p, hj, hgj, rfl, rfl, rfl⟩ := hrel
          by_cases hjl : j < e.length
          · have hjz : (j : Int) < (e.length : Int) := by omega
            by_cases hp : p < 1048576
            · obtain ⟨t, ht⟩ : ∃ t, e[j]? = some t := ⟨_, List.getElem?_eq_getElem hjl⟩
              obtain ⟨b3, o3, c3', hv3, hb3, t0⟩ := doText HR.out ht
              injection hv3 with hA _ hcc
              subst hA hcc
              clear ht
              go_wp2_with fail
              go_roundg (e.length - (j + 1))
              case measure => omega
              case rel => exact ⟨j + 1, _, by omega, by omega, rfl, by go_num, rfl⟩
            · go_wp2_with fail
              go_roundg (es.length - (i + 1))
              case measure => omega
              case rel => exact ⟨i + 1, _, by omega, by omega, rfl, by go_num, rfl⟩
          · have hjz : ¬ (j : Int) < (e.length : Int) := by omega
            go_wp2_with fail
            go_roundg (es.length - (i + 1))
            case measure => omega
            case rel => exact ⟨i + 1, _, by omega, by omega, rfl, by go_num, rfl⟩
      · go_wp2_with fail
        go_ret
        exact ⟨⟨_, rfl⟩, HE0.out⟩
    · have hltz : ¬ (i : Int) < (es.length : Int) := by omega
      go_wp2_with fail
      go_ret
      exact ⟨⟨_, rfl⟩, HE0.out⟩
theorem node_all (w : World) (op m1 m2 k : Int) (name : ByteArray) (anti : Bool) (A1 A2 A3 A4 A5 A6 A7 : Option Addr) (l1 c1 l2 c2 l3 c3 l4 c4 l5 c5 l6 c6 l7 c7 : Nat) (T : TypeId) (W : World) (hW : W = w.alloc (.cells #[.int .i64 op, .int .i64 m1, .int .i64 m2, .int .i64 k, .string name, .bool anti, .slice A1 l1 c1, .slice A2 l2 c2, .slice A3 l3 c3, .slice A4 l4 c4, .slice A5 l5 c5, .slice A6 l6 c6, .slice A7 l7 c7] T)) :
    W.cell? ⟨w.heap.size, 0, none⟩ = some (.int .i64 op) ∧ W.cell? ⟨w.heap.size, 1, none⟩ = some (.int .i64 m1) ∧ W.cell? ⟨w.heap.size, 2, none⟩ = some (.int .i64 m2) ∧ W.cell? ⟨w.heap.size, 3, none⟩ = some (.int .i64 k) ∧ W.cell? ⟨w.heap.size, 4, none⟩ = some (.string name) ∧ W.cell? ⟨w.heap.size, 5, none⟩ = some (.bool anti) ∧ W.cell? ⟨w.heap.size, 6, none⟩ = some (.slice A1 l1 c1) ∧ W.cell? ⟨w.heap.size, 7, none⟩ = some (.slice A2 l2 c2) ∧
    W.cell? ⟨w.heap.size, 8, none⟩ = some (.slice A3 l3 c3) ∧ W.cell? ⟨w.heap.size, 9, none⟩ = some (.slice A4 l4 c4) ∧ W.cell? ⟨w.heap.size, 10, none⟩ = some (.slice A5 l5 c5) ∧ W.cell? ⟨w.heap.size, 11, none⟩ = some (.slice A6 l6 c6) ∧ W.cell? ⟨w.heap.size, 12, none⟩ = some (.slice A7 l7 c7) := by
  subst hW
  have h1 : (w.alloc (.cells #[.int .i64 op, .int .i64 m1, .int .i64 m2, .int .i64 k, .string name, .bool anti, .slice A1 l1 c1, .slice A2 l2 c2, .slice A3 l3 c3, .slice A4 l4 c4, .slice A5 l5 c5, .slice A6 l6 c6, .slice A7 l7 c7] T)).heap[w.heap.size]? = some (.cells #[.int .i64 op, .int .i64 m1, .int .i64 m2, .int .i64 k, .string name, .bool anti, .slice A1 l1 c1, .slice A2 l2 c2, .slice A3 l3 c3, .slice A4 l4 c4, .slice A5 l5 c5, .slice A6 l6 c6, .slice A7 l7 c7] T (0, 0)) := heap_alloc_new w _
  refine ⟨?_, ?_, ?_, ?_, ?_, ?_, ?_, ?_, ?_, ?_, ?_, ?_, ?_⟩ <;> rw [Lib.cell_of_heap h1] <;> rfl
theorem NodeRd {w : World} {d : Nat} {v : Value} {ns : List (List Value)} (h : RdL 13 (fun n cs => n = cs ∧ NodeC w (PlanAt w d) cs) w AnyB v ns) {j : Nat} {x : List Value} (hj : ns[j]? = some x) : ∃ b o c, v = .slice (some ⟨b, o, none⟩) ns.length c ∧ b < w.heap.size ∧ NodeC w (PlanAt w d) x ∧ ∀ i u, x[i]? = some u → w.cell? ⟨b, o + j * 13 + i, none⟩ = some u := by
  obtain ⟨b, o, c, hv, hb, cs, _, ⟨rfl, hn⟩, _, hc⟩ := h.at hj
  exact ⟨b, o, c, hv, hb, hn, hc⟩
theorem DefRd {w : World} {P : Value → Prop} {v : Value} {ps : List Value} (h : RdL 1 (fun p cs => cs = [p] ∧ P p) w AnyB v ps) {j : Nat} {x : Value} (hj : ps[j]? = some x) : ∃ b o c, v = .slice (some ⟨b, o, none⟩) ps.length c ∧ b < w.heap.size ∧ P x ∧ w.cell? ⟨b, o + j, none⟩ = some x := by
  obtain ⟨b, o, c, hv, hb, cs, _, ⟨rfl, hn⟩, _, hc⟩ := h.at hj
  exact ⟨b, o, c, hv, hb, hn, by simpa using hc 0 _ rfl⟩
def SizePost (w : World) (e : Ending) (w' : World) : Prop := (∃ q, e = .returned (.int .i64 q)) ∧ Ext w w'
set_option maxRecDepth 100000 in
set_option maxHeartbeats 4000000 in
theorem r6size_step (k : Nat) (v : Value) (lists : Bool) (depth : Int) (W : World) (hd0 : 0 ≤ depth ∧ depth ≤ 80) (h : PlanAt W (k + 1) v) (IH : depth < 80 → ∀ (v' : Value) (W' : World), PlanAt W' k v' → Calls Tryz.prog 43 #[v', .bool lists, .int .i64 (depth + 1)] W' (SizePost W')) :
    Calls Tryz.prog 43 #[v, .bool lists, .int .i64 depth] W (SizePost W) := by
  obtain ⟨ns, h⟩ := h
  obtain ⟨A, c, rfl, _⟩ := h.shape
  have hnl := h.len
  have HN := As.mk h
  have HIH := As.mk IH
  clear h IH
  have hdw : IntKind.i64.wrap (depth + 1) = depth + 1 := by rw [IntKind.wrap_i64]; omega
  go_enter Tryz.func43, Tryz.ntmps43
  go_wp2_with fail
  go_loopg [7, 8, 9] ns.length (fun g s7 s8 _ wr => ∃ (i : Nat) (q : Int), i ≤ ns.length ∧ ns.length - i ≤ g ∧ s7 = .int .i64 q ∧ s8 = .int .i64 i ∧ As (Ext W wr))
  case atStart => exact ⟨0, _, Nat.zero_le _, by omega, rfl, rfl, ⟨Ext.refl _⟩⟩
  case round =>
    obtain ⟨i, q, hi, hg, rfl, rfl, HE⟩ := hrel
    by_cases hlt : i < ns.length
    · have hltz : (i : Int) < (ns.length : Int) := by omega
      by_cases hq : q < 1048576
      · obtain ⟨x, hx⟩ : ∃ x, ns[i]? = some x := ⟨_, List.getElem?_eq_getElem hlt⟩
        obtain ⟨b, o, c', hv, hb, hn, hc⟩ := NodeRd HN.out hx
        injection hv with hA _ hcc
        subst hA hcc
        have hn2 := hn.ext HE.out.below fun _ h => PlanAt.ext HE.out.below h
        have HB := As.mk (r6bulk_any (PlanAt wr k) x wr hn2)
        obtain ⟨op, na, nb, nn, name, anti, A1, A2, A3, A4, A5, A6, A7, c1, c2, c3, c4, l5, c5, l6, c6, c7, cols, others, kids, es, ps, rfl, _, _, _, _, _, hps⟩ := hn
        have n0 := HE.out.cell (hc 0 _ rfl)
        have n1 := HE.out.cell (hc 1 _ rfl)
        have n2 := HE.out.cell (hc 2 _ rfl)
        have n3 := HE.out.cell (hc 3 _ rfl)
        have n4 := HE.out.cell (hc 4 _ rfl)
        have n5 := HE.out.cell (hc 5 _ rfl)
        have n6 := HE.out.cell (hc 6 _ rfl)
        have n7 := HE.out.cell (hc 7 _ rfl)
        have n8 := HE.out.cell (hc 8 _ rfl)
        have n9 := HE.out.cell (hc 9 _ rfl)
        have n10 := HE.out.cell (hc 10 _ rfl)
        have n11 := HE.out.cell (hc 11 _ rfl)
        have n12 := HE.out.cell (hc 12 _ rfl)
        have H12 := As.mk (hc 12 _ rfl)
        have HPS := As.mk hps
        have hpl := hps.len
        clear hx hn2 hps hc
        simp only [Nat.add_zero] at n0
        cases lists with
        | false =>
          go_wp2_with fail
          clear n0 n1 n2 n3 n4 n5 n6 n7 n8 n9 n10 n11 n12
          generalize wr = wo at *
          go_loopg [7, 9] ps.length (fun g s7 s9 wr => ∃ (j : Nat) (p : Int), j ≤ ps.length ∧ ps.length - j ≤ g ∧ s7 = .int .i64 p ∧ s9 = .int .i64 j ∧ As (Ext W wr))
          case atStart => exact ⟨0, _, Nat.zero_le _, by omega, rfl, rfl, HE⟩
          case round =>
            clear HE
            obtain ⟨j, p, hj, hgj, rfl, rfl, HE⟩ := hrel
            have n12 := HE.out.cell H12.out
            by_cases hjl : j < ps.length
            · have hjz : (j : Int) < (ps.length : Int) := by omega
              by_cases hp : p < 1048576
              · by_cases hd : depth < 80
                · obtain ⟨y, hy⟩ : ∃ y, ps[j]? = some y := ⟨_, List.getElem?_eq_getElem hjl⟩
                  obtain ⟨b3, o3, c3', hv3, hb3, hP, p0⟩ := DefRd HPS.out hy
                  injection hv3 with hA _ hcc
                  subst hA hcc
                  obtain ⟨A8, n8', c8, rfl⟩ := hP.shape
                  have p0 := HE.out.cell p0
                  have HR := As.mk (HIH.out hd _ wr (PlanAt.ext HE.out.below hP))
                  clear hy hP
                  go_wp2_with (go_at_call 43; refine HR.out.mono ?_; rintro e w2 ⟨⟨q2, rfl⟩, hE2⟩; have HE2 := As.mk (HE.out.trans hE2); clear hE2)
                  go_roundg (ps.length - (j + 1))
                  case measure => omega
                  case rel => exact ⟨j + 1, _, by omega, by omega, rfl, by go_num, HE2⟩
                · go_wp2_with fail
                  go_roundg (ns.length - (i + 1))
                  case measure => omega
                  case rel => exact ⟨i + 1, _, by omega, by omega, rfl, by go_num, HE⟩
              · go_wp2_with fail
                go_roundg (ns.length - (i + 1))
                case measure => omega
                case rel => exact ⟨i + 1, _, by omega, by omega, rfl, by go_num, HE⟩
            · have hjz : ¬ (j : Int) < (ps.length : Int) := by omega
              go_wp2_with fail
              go_roundg (ns.length - (i + 1))
              case measure => omega
              case rel => exact ⟨i + 1, _, by omega, by omega, rfl, by go_num, HE⟩
        | true =>
          go_wp2_with (go_at_call 86; refine HB.out.mono ?_; rintro e w2 ⟨⟨q2, rfl⟩, hE2⟩; have HE2 := As.mk (HE.out.trans hE2); clear hE2)
          clear n0 n1 n2 n3 n4 n5 n6 n7 n8 n9 n10 n11 n12
          generalize wr = wo at *
          go_loopg [7, 9] ps.length (fun g s7 s9 wr => ∃ (j : Nat) (p : Int), j ≤ ps.length ∧ ps.length - j ≤ g ∧ s7 = .int .i64 p ∧ s9 = .int .i64 j ∧ As (Ext W wr))
          case atStart => exact ⟨0, _, Nat.zero_le _, by omega, rfl, rfl, HE2⟩
          case round =>
            clear HE HE2
            obtain ⟨j, p, hj, hgj, rfl, rfl, HE⟩ := hrel
            have n12 := HE.out.cell H12.out
            by_cases hjl : j < ps.length
            · have hjz : (j : Int) < (ps.length : Int) := by omega
              by_cases hp : p < 1048576
              · by_cases hd : depth < 80
                · obtain ⟨y, hy⟩ : ∃ y, ps[j]? = some y := ⟨_, List.getElem?_eq_getElem hjl⟩
                  obtain ⟨b3, o3, c3', hv3, hb3, hP, p0⟩ := DefRd HPS.out hy
                  injection hv3 with hA _ hcc
                  subst hA hcc
                  obtain ⟨A8, n8', c8, rfl⟩ := hP.shape
                  have p0 := HE.out.cell p0
                  have HR := As.mk (HIH.out hd _ wr (PlanAt.ext HE.out.below hP))
                  clear hy hP
                  go_wp2_with (go_at_call 43; refine HR.out.mono ?_; rintro e w2 ⟨⟨q2, rfl⟩, hE2⟩; have HE2 := As.mk (HE.out.trans hE2); clear hE2)
                  go_roundg (ps.length - (j + 1))
                  case measure => omega
                  case rel => exact ⟨j + 1, _, by omega, by omega, rfl, by go_num, HE2⟩
                · go_wp2_with fail
                  go_roundg (ns.length - (i + 1))
                  case measure => omega
                  case rel => exact ⟨i + 1, _, by omega, by omega, rfl, by go_num, HE⟩
              · go_wp2_with fail
                go_roundg (ns.length - (i + 1))
                case measure => omega
                case rel => exact ⟨i + 1, _, by omega, by omega, rfl, by go_num, HE⟩
            · have hjz : ¬ (j : Int) < (ps.length : Int) := by omega
              go_wp2_with fail
              go_roundg (ns.length - (i + 1))
              case measure => omega
              case rel => exact ⟨i + 1, _, by omega, by omega, rfl, by go_num, HE⟩
      · go_wp2_with fail
        go_ret
        exact ⟨⟨_, rfl⟩, HE.out⟩
    · have hltz : ¬ (i : Int) < (ns.length : Int) := by omega
      go_wp2_with fail
      go_ret
      exact ⟨⟨_, rfl⟩, HE.out⟩
theorem r6size_any : ∀ (k : Nat) (v : Value) (lists : Bool) (depth : Int) (W : World), 0 ≤ depth → depth + k = 80 → PlanAt W (k + 1) v → Calls Tryz.prog 43 #[v, .bool lists, .int .i64 depth] W (SizePost W)
  | 0, v, lists, depth, W, h0, hd, h => r6size_step 0 v lists depth W ⟨h0, by omega⟩ h fun h => absurd h (by omega)
  | k + 1, v, lists, depth, W, h0, hd, h => r6size_step (k + 1) v lists depth W ⟨h0, by omega⟩ h fun _ v' W' h' => r6size_any k v' lists (depth + 1) W' (by omega) (by omega) h'
def BoolPost (w : World) (e : Ending) (w' : World) : Prop := (∃ q : Bool, e = .returned (.bool q)) ∧ Ext w w'
set_option maxRecDepth 100000 in
theorem r6Great_any (v : Value) (n : Int) (w : World) (h : PlanAt w 81 v) : Calls Tryz.prog 20 #[v, .int .i64 n] w (BoolPost w) := by
  obtain ⟨A, m, c, rfl⟩ := h.shape
  have h1 := r6size_any 80 _ false 0 w (by decide) (by decide) h
  have h2 := fun W (hE : Ext w W) => r6size_any 80 _ true 0 W (by decide) (by decide) (PlanAt.ext hE.below h)
  clear h
  go_enter Tryz.func20, Tryz.ntmps20
  go_wp2_with (first | (go_at_call 43; (with_reducible refine h1.mono ?_); rintro e w1 ⟨⟨q1, rfl⟩, hE1⟩) | (go_at_call 43; (with_reducible refine (h2 _ hE1).mono ?_); rintro e w2 ⟨⟨q2, rfl⟩, hE2⟩))
  all_goals (go_ret; exact ⟨⟨_, rfl⟩, (by with_reducible (repeat first | exact Ext.refl _ | assumption | apply Ext.alloc | apply Ext.drewN | apply Ext.drew | apply Ext.grow | refine Ext.trans ?_ (by assumption)))⟩)
end Go.Proofs.YtflckpfpgpfjlaaGreatDoor
end
section
namespace Go.Proofs.YtflckpfpgpfjlaaGreatDoor
open Go.RowKit Go.Sort
def ED (w : World) (ok : Blk) (d : List (List GE)) (cs : List Value) : Prop := ∃ v, cs = [v] ∧ RdD w ok v d
abbrev RdDD (w : World) (ok : Blk) (v : Value) (ds : List (List (List GE))) : Prop := RdL 1 (ED w ok) w ok v ds
theorem RdD.mv {w w' : World} {ok ok' : Blk} {v : Value} {z : List (List GE)} (h : RdD w ok v z) (hs : Stays w w' ok ok') : RdD w' ok' v z :=
  RdL.move h (fun _ _ ⟨v, h1, h2⟩ => ⟨v, h1, h2.mv hs⟩) hs
theorem RdDD.mv {w w' : World} {ok ok' : Blk} {v : Value} {z : List (List (List GE))} (h : RdDD w ok v z) (hs : Stays w w' ok ok') : RdDD w' ok' v z :=
  RdL.move h (fun _ _ ⟨v, h1, h2⟩ => ⟨v, h1, h2.mv hs⟩) hs
theorem RdDD.ext {w w' : World} {ok : Blk} {v : Value} {z : List (List (List GE))} (h : RdDD w ok v z) (hb : Below w.heap.size w w') : RdDD w' ok v z := h.mv (Stays.below hb ok)
theorem RdDD.ds {w : World} {ok : Blk} {v : Value} {z : List (List (List GE))} (h : RdDD w ok v z) {j : Nat} {x : List (List GE)} (hj : z[j]? = some x) : ∃ b o c A d, v = .slice (some ⟨b, o, none⟩) z.length c ∧ b < w.heap.size ∧
    RdD w ok (.slice A x.length d) x ∧ w.cell? ⟨b, o + j, none⟩ = some (.slice A x.length d) := by
  obtain ⟨b, o, c, hv, hb, cs, _, ⟨u, rfl, hr⟩, _, hc⟩ := h.at hj
  obtain ⟨A, d, rfl, _⟩ := hr.shape
  exact ⟨b, o, c, A, d, hv, hb, hr, by simpa using hc 0 _ rfl⟩
set_option maxRecDepth 100000 in
set_option maxHeartbeats 2000000 in
theorem lVast_any (u v : Value) (x y : Int) (ds : List (List (List GE))) (w : World) (hu : RdI w AnyB u [x, y]) (hv : RdDD w AnyB v ds) (hx : 0 ≤ x ∧ x ≤ 1024) (hy : 0 ≤ y ∧ y ≤ 1024) :
    Calls Tryz.prog 10 #[u, v] w fun e w' => (∃ q : Bool, e = .returned (.bool q)) ∧ Ext w w' := by
  have mixed := mixed
  obtain ⟨b, o, c, rfl, _, _, f0⟩ := RdI.val hu (j := 0) rfl
  obtain ⟨b', o', c', hv', _, _, f1⟩ := RdI.val hu (j := 1) rfl
  injection hv' with hA _ hcc
  injection hA with hA
  injection hA with hA1 hA2 _
  subst hA1 hA2 hcc
  simp only [List.length_cons, List.length_nil, Nat.zero_add, Nat.reduceAdd, Nat.add_zero] at *
  obtain ⟨B, d, rfl, _⟩ := hv.shape
  have hdl := hv.len
  have HV := As.mk hv
  clear hu hv
  have x1 : ¬ x < 0 := by omega
  have x2 : ¬ 1024 < x := by omega
  have y1 : ¬ y < 0 := by omega
  have y2 : ¬ 1024 < y := by omega
  go_enter Tryz.func10, Tryz.ntmps10
  go_wp2_with fail
  go_loopg [5, 6, 7] 40 (fun g s5 s6 s7 wr => ∃ (i : Nat) (p q : Int), i ≤ 40 ∧ 40 - i ≤ g ∧ s5 = .int .i64 p ∧ s6 = .int .i64 q ∧ s7 = .int .i64 i ∧ wr = w)
  case atStart => exact ⟨0, 0, 0, by omega, by omega, rfl, rfl, rfl, rfl⟩
  case round =>
    obtain ⟨i, p, q, hi, hg, rfl, rfl, rfl, rfl⟩ := hrel
    by_cases hlt : i < ds.length ∧ i < 40
    · obtain ⟨hlt1, hlt2⟩ := hlt
      have hz1 : (i : Int) < (ds.length : Int) := by omega
      have hz2 : (i : Int) < 40 := by omega
      obtain ⟨D, hD⟩ : ∃ D, ds[i]? = some D := ⟨_, List.getElem?_eq_getElem hlt1⟩
      obtain ⟨b2, o2, c2, A2, d2, hv2, hb2, hr2, e0⟩ := HV.out.ds hD
      injection hv2 with hA _ hcc
      subst hA hcc
      by_cases h2 : D.length = 2
      · obtain ⟨da, dz, rfl⟩ : ∃ da dz, D = [da, dz] := by
          match D, h2 with
          | [da, dz], _ => exact ⟨da, dz, rfl⟩
        obtain ⟨b3, o3, c3, A3, d3, hv3, hb3, hr3, g0⟩ := RdD.delta hr2 (j := 0) rfl
        obtain ⟨b4, o4, c4, A4, d4, hv4, hb4, hr4, g1⟩ := RdD.delta hr2 (j := 1) rfl
        injection hv3 with hA _ hcc
        subst hA hcc
        injection hv4 with hA _ hcc
        injection hA with hA
        injection hA with hA1 hA2 _
        subst hA1 hA2
        clear hr2 hr3 hr4 hcc
        simp only [List.length_cons, List.length_nil, Nat.zero_add, Nat.reduceAdd, Nat.add_zero] at *
        by_cases ha : (40 : Int) < (da.length : Int)
        · go_wp2_with fail
          go_quiet (fail)
          go_wp2
          go_ret
          exact ⟨⟨_, rfl⟩, (by with_reducible (repeat first | exact Ext.refl _ | assumption | apply Ext.alloc | apply Ext.drewN | apply Ext.drew | apply Ext.grow | refine Ext.trans ?_ (by assumption)))⟩
        · by_cases hb : (40 : Int) < (dz.length : Int)
          · go_wp2_with fail
            go_quiet (fail)
            go_wp2
            go_ret
            exact ⟨⟨_, rfl⟩, (by with_reducible (repeat first | exact Ext.refl _ | assumption | apply Ext.alloc | apply Ext.drewN | apply Ext.drew | apply Ext.grow | refine Ext.trans ?_ (by assumption)))⟩
          · go_wp2_with fail
            go_roundg (40 - (i + 1))
            case measure => omega
            case rel => exact ⟨i + 1, _, _, by omega, by omega, rfl, rfl, by go_num, rfl⟩
      · have h2z : ((D.length : Int) != 2) = true := by simp; omega
        go_wp2_with fail
        go_quiet (fail)
        go_wp2
        go_ret
        exact ⟨⟨_, rfl⟩, (by with_reducible (repeat first | exact Ext.refl _ | assumption | apply Ext.alloc | apply Ext.drewN | apply Ext.drew | apply Ext.grow | refine Ext.trans ?_ (by assumption)))⟩
    · by_cases hlt1 : i < ds.length
      · have hz1 : (i : Int) < (ds.length : Int) := by omega
        have hz2 : ¬ (i : Int) < 40 := by omega
        go_wp2_with fail
        go_quiet (fail)
        go_wp2
        go_ret
        exact ⟨⟨_, rfl⟩, (by with_reducible (repeat first | exact Ext.refl _ | assumption | apply Ext.alloc | apply Ext.drewN | apply Ext.drew | apply Ext.grow | refine Ext.trans ?_ (by assumption)))⟩
      · have hz1 : ¬ (i : Int) < (ds.length : Int) := by omega
        go_wp2_with fail
        go_quiet (fail)
        go_wp2
        go_ret
        exact ⟨⟨_, rfl⟩, (by with_reducible (repeat first | exact Ext.refl _ | assumption | apply Ext.alloc | apply Ext.drewN | apply Ext.drew | apply Ext.grow | refine Ext.trans ?_ (by assumption)))⟩
end Go.Proofs.YtflckpfpgpfjlaaGreatDoor
end
section
namespace Go.Proofs.YtflckpfpgpfjlaaGreatDoor
open Go.RowKit Go.Sort Go.ChangeShapes Go.WideShapes Go.Deep
section
variable {H : Type} {enc : TypeId × Value → H} {w : World} {base : Nat} {spare : Nat → Bool} {held : Bool} {fuel : Nat} {cs : List Value} {x : DataW H × List MemPlace}
theorem open_list {α : Type} {sz : Nat} {E : α → List Value → Prop} {t e : TypeId} (hsz : 0 < sz) (ht : Tryz.prog.underlying t = some (.slice e)) (hC : Tryz.prog.cellsOf e = sz) (h : DataW.trod enc Tryz.prog w base spare held fuel t cs = some x) (hb : Rows.uptoBulk x.1 ≤ 1048576)
    (hE : ∀ (vs : List Value) (n : Nat) (y : DataW H × List MemPlace), vs.length = sz → DataW.trod enc Tryz.prog w base spare held n e vs = some y → Rows.uptoBulk y.1 ≤ 1048576 → ∃ q, E q vs ∧ ∀ u ∈ vs, u.oneCell' = true) : ∃ v xs, cs = [v] ∧ RdL sz E w AnyB v xs := by
  rcases open_slice ht h with ⟨rfl, rfl⟩ | ⟨a, len, cap, m, n, D, Pl, rfl, hbb, hl, hm, hmm, rfl, hi⟩
  · exact ⟨_, [], rfl, RdL.nil _ _ _ _⟩
  · have hlm : len ≤ m := by rw [hmm]; split <;> omega
    have hsl : Rows.uptoBulkAll ((List.range len).map D) ≤ 1048576 := by
      simp only [Rows.uptoBulk] at hb
      omega
    have hlen : len ≤ 4294967296 := by
      have := bulk_length ((List.range len).map D)
      rw [List.length_map, List.length_range] at this
      omega
    obtain ⟨xs, hxs⟩ := rdl_of (w := w) (E := E) hsz a len cap hl hlen fun j hj => by
      obtain ⟨cs', hc, ht'⟩ := hi j (by omega)
      rw [hC] at hc
      obtain ⟨_, hcl, hat⟩ := World.cells?_some hc
      have b2 : Rows.uptoBulk (D j) ≤ Rows.uptoBulkAll ((List.range len).map D) := bulk_part (List.mem_map_of_mem (List.mem_range.2 hj))
      obtain ⟨q, hq, h1⟩ := hE cs' n _ hcl ht' (Nat.le_trans b2 hsl)
      refine ⟨q, cs', hcl, hq, h1, fun i u hu => ?_⟩
      have hil : i < sz := by have := (List.getElem?_eq_some_iff.1 hu).1; omega
      rw [← Go.Deep.add_add, hat i hil, hu]
    exact ⟨_, xs, rfl, hxs⟩
theorem open_shape {t e : TypeId} (ht : Tryz.prog.underlying t = some (.slice e)) (h : DataW.trod enc Tryz.prog w base spare held fuel t cs = some x) : ∃ A n c, cs = [.slice A n c] := by
  rcases open_slice ht h with ⟨rfl, rfl⟩ | ⟨a, len, cap, m, n, D, Pl, rfl, hbb, hl, hm, hmm, rfl, hi⟩
  · exact ⟨_, _, _, rfl⟩
  · exact ⟨_, _, _, rfl⟩
theorem open_fields {t : TypeId} {fs : Array Field} (ht : Tryz.prog.underlying t = some (.struct fs)) (hone : oneCellFields Tryz.prog fs = true) (hl : cs.length = fs.size) (h : DataW.trod enc Tryz.prog w base spare held fuel t cs = some x) (hb : Rows.uptoBulk x.1 ≤ 1048576) :
    ∃ n, ∀ (j : Nat) (f : Field) (v : Value), fs[j]? = some f → cs[j]? = some v → ∃ y, DataW.trod enc Tryz.prog w base spare held n f.type [v] = some y ∧ Rows.uptoBulk y.1 ≤ 1048576 := by
  obtain ⟨ys, n', hn', hy, hlen', hyl, hf⟩ := DataW.trod_struct ht h
  subst hy
  refine ⟨n', fun i f v hif hiv => ?_⟩
  obtain ⟨ho, hk⟩ := hone_of hone i f hif
  have hil : i < fs.size := (Array.getElem?_eq_some_iff.1 hif).1
  have h1 := hf i f hif
  rw [ho, hk] at h1
  have hone' : (cs.drop i).take 1 = [v] := by
    obtain ⟨hlt, rfl⟩ := List.getElem?_eq_some_iff.1 hiv
    rw [List.drop_eq_getElem_cons hlt]
    rfl
  rw [hone'] at h1
  have hys : ys[i]? = some (ys[i]'(by omega)) := List.getElem?_eq_getElem (by omega)
  refine ⟨_, h1.trans hys, ?_⟩
  have b1 : Rows.uptoBulk (ys[i]'(by omega)).1 ≤ Rows.uptoBulkAll (ys.map (·.1)) := bulk_part (List.mem_map_of_mem (List.getElem_mem _))
  simp only [Rows.uptoBulk] at hb
  omega
theorem open_do {vs : List Value} {y : DataW H × List MemPlace} {n : Nat} (hl : vs.length = 6) (h : DataW.trod enc Tryz.prog w base spare held n 213 vs = some y) (hb : Rows.uptoBulk y.1 ≤ 1048576) : ∃ s, EDo s vs ∧ ∀ u ∈ vs, u.oneCell' = true := by
  match vs, hl with
  | [v0, v1, v2, v3, v4, v5], _ =>
    obtain ⟨ys, n', hn', hy, hlen', hyl, hf⟩ := DataW.trod_struct Tryz.underlying213 h
    subst hy
    have g0 : DataW.trod enc Tryz.prog w base spare held n' 3 (([v0, v1, v2, v3, v4, v5].drop 0).take (Tryz.prog.cellsOf 3)) = ys[0]? := hf 0 _ rfl
    have g1 : DataW.trod enc Tryz.prog w base spare held n' 3 (([v0, v1, v2, v3, v4, v5].drop 1).take (Tryz.prog.cellsOf 3)) = ys[1]? := hf 1 _ rfl
    have g2 : DataW.trod enc Tryz.prog w base spare held n' 96 (([v0, v1, v2, v3, v4, v5].drop 2).take (Tryz.prog.cellsOf 96)) = ys[2]? := hf 2 _ rfl
    have hyl3 : ys.length = 3 := hyl
    have y0 : ys[0]? = some (ys[0]'(by omega)) := List.getElem?_eq_getElem (by omega)
    have y1 : ys[1]? = some (ys[1]'(by omega)) := List.getElem?_eq_getElem (by omega)
    have y2 : ys[2]? = some (ys[2]'(by omega)) := List.getElem?_eq_getElem (by omega)
    have b2 : Rows.uptoBulk (ys[2]'(by omega)).1 ≤ 1048576 := by
      have b1 : Rows.uptoBulk (ys[2]'(by omega)).1 ≤ Rows.uptoBulkAll (ys.map (·.1)) := bulk_part (List.mem_map_of_mem (List.getElem_mem _))
      simp only [Rows.uptoBulk] at hb
      omega
    rw [y0] at g0
    rw [y1] at g1
    rw [y2] at g2
    rw [show Tryz.prog.cellsOf 3 = 1 by kernel_rfl] at g0 g1
    rw [show Tryz.prog.cellsOf 96 = 4 by kernel_rfl] at g2
    obtain ⟨k0, hk0, _, _⟩ := DataW.trod_int Tryz.underlying3 g0
    obtain ⟨k1, hk1, _, _⟩ := DataW.trod_int Tryz.underlying3 g1
    obtain ⟨m, hm⟩ := open_fields Tryz.underlying96 (by kernel_rfl) rfl g2 b2
    obtain ⟨_, t2, _⟩ := hm 0 _ v2 rfl rfl
    obtain ⟨_, t3, _⟩ := hm 1 _ v3 rfl rfl
    obtain ⟨_, t4, _⟩ := hm 2 _ v4 rfl rfl
    obtain ⟨_, t5, _⟩ := hm 3 _ v5 rfl rfl
    obtain ⟨k2, hk2, _, _⟩ := DataW.trod_int Tryz.underlying3 t2
    obtain ⟨k3, hk3, _, _⟩ := DataW.trod_int Tryz.underlying3 t3
    obtain ⟨k4, hk4, _, _⟩ := DataW.trod_int Tryz.underlying94 t4
    obtain ⟨s, hs, _, _⟩ := DataW.trod_string Tryz.underlying9 t5
    simp only [List.drop_zero, List.drop_succ_cons, List.take_succ_cons, List.take_zero, List.cons.injEq, and_true] at hk0 hk1 hk2 hk3 hk4 hs
    subst hk0 hk1 hk2 hk3 hk4 hs
    exact ⟨s, ⟨k0, k1, k2, k3, k4, rfl⟩, by simp [Value.oneCell']⟩
theorem open_exprs (h : DataW.trod enc Tryz.prog w base spare held fuel 23 cs = some x) (hb : Rows.uptoBulk x.1 ≤ 1048576) : ∃ v es, cs = [v] ∧ RdX w v es := by
  refine open_list (sz := 1) (by decide) Tryz.underlying23 (by kernel_rfl) h hb fun vs n y hl ht hb2 => ?_
  obtain ⟨v, e, rfl, hr⟩ := open_list (E := EDo) (sz := 6) (by decide) Tryz.underlying163 (by kernel_rfl) ht hb2 fun vs n y hl ht hb3 => open_do hl ht hb3
  obtain ⟨A, c, rfl, _⟩ := hr.shape
  exact ⟨e, ⟨_, rfl, hr⟩, by simp [Value.oneCell']⟩
theorem open_node {P : Value → Prop} {vs : List Value} {y : DataW H × List MemPlace} {n : Nat} (hl : vs.length = 13) (h : DataW.trod enc Tryz.prog w base spare held n 28 vs = some y) (hb : Rows.uptoBulk y.1 ≤ 1048576)
    (hP : ∀ (v : Value) (m : Nat) (q : DataW H × List MemPlace), DataW.trod enc Tryz.prog w base spare held m 55 [v] = some q → Rows.uptoBulk q.1 ≤ 1048576 → P v) : NodeC w P vs ∧ ∀ u ∈ vs, u.oneCell' = true := by
  match vs, hl with
  | [v0, v1, v2, v3, v4, v5, v6, v7, v8, v9, v10, v11, v12], _ =>
    obtain ⟨m, hm⟩ := open_fields Tryz.underlying28 (by kernel_rfl) rfl h hb
    obtain ⟨_, t0, _⟩ := hm 0 _ v0 rfl rfl
    obtain ⟨_, t1, _⟩ := hm 1 _ v1 rfl rfl
    obtain ⟨_, t2, _⟩ := hm 2 _ v2 rfl rfl
    obtain ⟨_, t3, _⟩ := hm 3 _ v3 rfl rfl
    obtain ⟨_, t4, _⟩ := hm 4 _ v4 rfl rfl
    obtain ⟨_, t5, _⟩ := hm 5 _ v5 rfl rfl
    obtain ⟨_, t6, b6⟩ := hm 6 _ v6 rfl rfl
    obtain ⟨_, t7, b7⟩ := hm 7 _ v7 rfl rfl
    obtain ⟨_, t8, b8⟩ := hm 8 _ v8 rfl rfl
    obtain ⟨_, t9, b9⟩ := hm 9 _ v9 rfl rfl
    obtain ⟨_, t10, _⟩ := hm 10 _ v10 rfl rfl
    obtain ⟨_, t11, _⟩ := hm 11 _ v11 rfl rfl
    obtain ⟨_, t12, b12⟩ := hm 12 _ v12 rfl rfl
    obtain ⟨k0, hk0, _, w0⟩ := DataW.trod_int Tryz.underlying3 t0
    obtain ⟨k1, hk1, _, w1⟩ := DataW.trod_int Tryz.underlying3 t1
    obtain ⟨k2, hk2, _, w2⟩ := DataW.trod_int Tryz.underlying3 t2
    obtain ⟨k3, hk3, _, w3⟩ := DataW.trod_int Tryz.underlying3 t3
    obtain ⟨s, hs, _, _⟩ := DataW.trod_string Tryz.underlying9 t4
    obtain ⟨p, hp, _⟩ := DataW.trod_bool Tryz.underlying4 t5
    obtain ⟨u6, r6, hv6, hr6⟩ := open_ints t6 b6
    obtain ⟨u7, r7, hv7, hr7⟩ := open_ints t7 b7
    obtain ⟨u8, r8, hv8, hr8⟩ := open_ints t8 b8
    obtain ⟨u9, r9, hv9, hr9⟩ := open_exprs t9 b9
    obtain ⟨A10, n10, c10, hv10⟩ := open_shape Tryz.underlying24 t10
    obtain ⟨A11, n11, c11, hv11⟩ := open_shape Tryz.underlying25 t11
    obtain ⟨u12, r12, hv12, hr12⟩ := open_list (E := fun p cs => cs = [p] ∧ P p) (sz := 1) (by decide) Tryz.underlying26 (by kernel_rfl) t12 b12 fun vs n y hl ht hb3 => by
      obtain ⟨A, l, c, rfl⟩ := open_shape Tryz.underlying55 ht
      exact ⟨_, ⟨rfl, hP _ n y ht hb3⟩, by simp [Value.oneCell']⟩
    simp only [List.cons.injEq, and_true] at hk0 hk1 hk2 hk3 hs hp hv6 hv7 hv8 hv9 hv10 hv11 hv12
    subst hk0 hk1 hk2 hk3 hs hp hv6 hv7 hv8 hv9 hv10 hv11 hv12
    obtain ⟨A6, c6, rfl, _⟩ := hr6.shape
    obtain ⟨A7, c7, rfl, _⟩ := hr7.shape
    obtain ⟨A8, c8, rfl, _⟩ := hr8.shape
    obtain ⟨A9, c9, rfl, _⟩ := hr9.shape
    obtain ⟨A12, c12, rfl, _⟩ := hr12.shape
    exact ⟨⟨k0, k1, k2, k3, s, p, A6, A7, A8, A9, A10, A11, A12, c6, c7, c8, c9, n10, c10, n11, c11, c12, r6, r7, r8, r9, r12, rfl, ⟨wf_i64 w0, wf_i64 w1, wf_i64 w2, wf_i64 w3⟩, hr6, hr7, hr8, hr9, hr12⟩, by simp [Value.oneCell']⟩
theorem open_plan : ∀ (d : Nat) (v : Value) (m : Nat) (q : DataW H × List MemPlace), DataW.trod enc Tryz.prog w base spare held m 55 [v] = some q → Rows.uptoBulk q.1 ≤ 1048576 → PlanAt w d v
  | 0, v, m, q, h, hb => by
    obtain ⟨A, l, c, hv⟩ := open_shape Tryz.underlying55 h
    simp only [List.cons.injEq, and_true] at hv
    exact ⟨A, l, c, hv⟩
  | d + 1, v, m, q, h, hb => by
    obtain ⟨u, ns, hv, hr⟩ := open_list (E := fun n cs => n = cs ∧ NodeC w (PlanAt w d) cs) (sz := 13) (by decide) Tryz.underlying55 (by kernel_rfl) h hb fun vs n y hl ht hb3 => by
      obtain ⟨h1, h2⟩ := open_node hl ht hb3 (P := PlanAt w d) (open_plan d)
      exact ⟨vs, ⟨rfl, h1⟩, h2⟩
    simp only [List.cons.injEq, and_true] at hv
    subst hv
    exact ⟨ns, hr⟩
theorem open_zss (h : DataW.trod enc Tryz.prog w base spare held fuel 29 cs = some x) (hb : Rows.uptoBulk x.1 ≤ 1048576) : ∃ v r, cs = [v] ∧ RdDD w AnyB v r := by
  refine open_list (sz := 1) (by decide) Tryz.underlying29 (by kernel_rfl) h hb fun vs n y hl ht hb2 => ?_
  obtain ⟨v, r, rfl, hr⟩ := open_zs ht hb2
  obtain ⟨A, c, rfl, _⟩ := hr.shape
  exact ⟨r, ⟨_, rfl, hr⟩, by simp [Value.oneCell']⟩
end
end Go.Proofs.YtflckpfpgpfjlaaGreatDoor
end
