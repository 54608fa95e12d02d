/- Items: how they lie in memory; the walks of cmp.Or and spine.compare. -/
import Derived.Test.YtmpndmjfdijamaaGreatDoorSl
set_option linter.unusedVariables false
set_option linter.unusedSimpArgs false
namespace Go.Proofs.YtmpndmjfdijamaaGreatDoor
open Go.RowKit Go.Sort
/-- spine.item -/
structure GI where
  key : ByteArray
  enc : ByteArray
  row : List GV
  size : Int
/-- An item's cells. -/
def EIt (w : World) (ok : Blk) (x : GI) (cs : List Value) : Prop := ∃ v, cs = [.string x.key, .string x.enc, v, .int .i64 x.size] ∧ i64 x.size ∧ x.key.size ≤ 9223372036854775807 ∧ x.enc.size ≤ 9223372036854775807 ∧ RdV w ok v x.row
/-- A batch. -/
abbrev RdT (w : World) (ok : Blk) (v : Value) (z : List GI) : Prop := RdL 4 (EIt w ok) w ok v z
theorem EIt.mv {w w' : World} {ok ok' : Blk} {x : GI} {cs : List Value} (h : EIt w ok x cs) (hs : Stays w w' ok ok') : EIt w' ok' x cs :=
  let ⟨v, hc, hi, hk, he, hr⟩ := h; ⟨v, hc, hi, hk, he, hr.mv hs⟩
theorem RdT.mv {w w' : World} {ok ok' : Blk} {v : Value} {z : List GI} (h : RdT w ok v z) (hs : Stays w w' ok ok') : RdT w' ok' v z :=
  RdL.move h (fun _ _ e => e.mv hs) hs
theorem RdT.ext {w w' : World} {ok : Blk} {v : Value} {z : List GI} (h : RdT w ok v z) (hb : Below w.heap.size w w') : RdT w' ok v z := h.mv (Stays.below hb ok)
theorem RdT.itm {w : World} {ok : Blk} {v : Value} {z : List GI} (h : RdT w ok v z) {j : Nat} {x : GI} (hj : z[j]? = some x) : ∃ b o c A d, v = .slice (some ⟨b, o, none⟩) z.length c ∧ b < w.heap.size ∧ i64 x.size ∧
    RdV w ok (.slice A x.row.length d) x.row ∧ EIt w ok x [.string x.key, .string x.enc, .slice A x.row.length d, .int .i64 x.size] ∧ w.cell? ⟨b, o + j * 4, none⟩ = some (.string x.key) ∧ w.cell? ⟨b, o + j * 4 + 1, none⟩ = some (.string x.enc) ∧ w.cell? ⟨b, o + j * 4 + 2, none⟩ = some (.slice A x.row.length d) ∧ w.cell? ⟨b, o + j * 4 + 3, none⟩ = some (.int .i64 x.size) := by
  obtain ⟨b, o, c, hv, hb, cs, _, ⟨u, rfl, hx, hk, he, hr⟩, _, hc⟩ := h.at hj
  obtain ⟨A, d, rfl, _⟩ := hr.shape
  exact ⟨b, o, c, A, d, hv, hb, hx, hr, ⟨_, rfl, hx, hk, he, hr⟩, hc 0 _ rfl, hc 1 _ rfl, hc 2 _ rfl, hc 3 _ rfl⟩
theorem info_item : (Tryz.prog.info? 72).map (fun i => (i.zero, i.size, i.bytes)) = some (some (.agg #[.string ⟨#[]⟩, .string ⟨#[]⟩, .slice none 0 0, .int .i64 0]), 4, 64) := by kernel_rfl
/-- What lies below lies ahead of what does not. -/
def Mono0 (f : GI → Int) (z : List GI) : Prop := ∀ (a b : Nat) (x y : GI), a ≤ b → z[a]? = some x → z[b]? = some y → f y < 0 → f x < 0
/-- cmp.Or -/
def orv (a b : Int) : Int := if a ≠ 0 then a else b
/-- spine.compare, of key and enc. -/
def kcmp (k e k' e' : ByteArray) : Int := orv (scmp k k') (scmp e e')
def GI.cmp (x y : GI) : Int := kcmp x.key x.enc y.key y.enc
theorem orInt_any (a b : Int) (k : Nat) (w : World) (h0 : w.cell? ⟨k, 0, none⟩ = some (.int .i64 a)) (h1 : w.cell? ⟨k, 1, none⟩ = some (.int .i64 b)) : Calls Tryz.prog 61 #[.slice (some ⟨k, 0, none⟩) 2 2] w fun e w' => e = .returned (.int .i64 (orv a b)) ∧ w = w' := by
  go_enter Tryz.func61, Tryz.ntmps61
  go_wp2
  go_loopg [5, 8] 2 (fun g _ s8 wr => ∃ k : Nat, k ≤ 2 ∧ 2 - k ≤ g ∧ s8 = .int .i64 k ∧ wr = w ∧ As (0 < k → a = 0) ∧ As (1 < k → b = 0))
  case atStart => exact ⟨0, by omega, by omega, rfl, rfl, ⟨fun h => absurd h (by omega)⟩, ⟨fun h => absurd h (by omega)⟩⟩
  case round =>
    obtain ⟨k, hk, hg, rfl, rfl, HA, HB⟩ := hrel
    have hk3 : k = 0 ∨ k = 1 ∨ k = 2 := by omega
    rcases hk3 with rfl | rfl | rfl
    · by_cases ha : a = 0
      · have hab : (a != 0) = false := by simpa using ha
        have HA2 := As.mk ha
        clear ha
        go_wp2
        go_roundg 1
        case measure => omega
        case rel => exact ⟨1, by omega, by omega, by first | trivial | go_num, by first | trivial | rfl, ⟨fun _ => HA2.out⟩, ⟨fun h => absurd h (by omega)⟩⟩
      · have hab : (a != 0) = true := by simpa using ha
        go_wp2
        go_ret
        exact ⟨ret_int (by simp [orv, ha]), rfl⟩
    · have HA2 := As.mk (HA.out (by omega))
      by_cases hb : b = 0
      · have hbb : (b != 0) = false := by simpa using hb
        have HB2 := As.mk hb
        clear hb
        go_wp2
        go_roundg 0
        case measure => omega
        case rel => exact ⟨2, by omega, by omega, by first | trivial | go_num, by first | trivial | rfl, ⟨fun _ => HA2.out⟩, ⟨fun _ => HB2.out⟩⟩
      · have hbb : (b != 0) = true := by simpa using hb
        go_wp2
        go_ret
        exact ⟨ret_int (by simp [orv, HA2.out]), rfl⟩
    · have ha : a = 0 := HA.out (by omega)
      have hb : b = 0 := HB.out (by omega)
      go_wp2
      go_ret
      exact ⟨ret_int (by simp [orv, ha, hb]), rfl⟩
set_option maxRecDepth 100000 in
theorem compare_any (A B : Option Addr) (n m c d : Nat) (k e k' e' : ByteArray) (s s' : Int) (w : World) :
    Calls Tryz.prog 36 #[.agg #[.string k, .string e, .slice A n c, .int .i64 s], .agg #[.string k', .string e', .slice B m d, .int .i64 s']] w fun r w' => r = .returned (.int .i64 (kcmp k e k' e')) ∧ Ext w w' := by
  have h1 := fun W => (strCompare_any k k' W).mono (fun _ _ ⟨he, hw⟩ => (⟨he, hw.symm⟩ : _ ∧ _ = W))
  have h2 := fun W => (strCompare_any e e' W).mono (fun _ _ ⟨he, hw⟩ => (⟨he, hw.symm⟩ : _ ∧ _ = W))
  go_enter Tryz.func36, Tryz.ntmps36
  go_wp2
  generalize hW1 : ((w.alloc (.cells #[.string k, .string e, .slice A n c, .int .i64 s] 72)).alloc (.cells #[.string k', .string e', .slice B m d, .int .i64 s'] 72)) = W1
  have c1 : W1.cell? ⟨w.heap.size, 0, none⟩ = some (.string k) := by rw [← hW1]; simp
  have c2 : W1.cell? ⟨w.heap.size, 1, none⟩ = some (.string e) := by rw [← hW1]; simp
  have c3 : W1.cell? ⟨w.heap.size + 1, 0, none⟩ = some (.string k') := by rw [← hW1]; simp
  have c4 : W1.cell? ⟨w.heap.size + 1, 1, none⟩ = some (.string e') := by rw [← hW1]; simp
  have hE : Ext w W1 := by rw [← hW1]; exact (by repeat (first | (with_reducible exact Ext.refl _) | (with_reducible assumption) | (with_reducible apply Ext.alloc) | (with_reducible apply Ext.drewN) | (with_reducible apply Ext.drew) | (with_reducible apply Ext.grow) | (with_reducible refine Ext.trans ?_ (by with_reducible assumption))))
  clear hW1
  refine wp_region_still_tail 10 (by kernel_rfl) (by kernel_rfl) ?_
  simp only [List.take_succ_cons, List.take_zero, List.drop_succ_cons, List.drop_zero]
  repeat still_step
  still_call (h1 _)
  repeat still_step
  still_call (h2 _)
  repeat still_step
  refine wpStill_nil ?_
  go_wp2_with fail
  refine (orInt_any (scmp k k') (scmp e e') _ _ (by simp) (by simp)).mono ?_
  rintro r w3 ⟨rfl, rfl⟩
  go_wp2_with fail
  go_ret
  exact ⟨rfl, (by repeat (first | (with_reducible exact Ext.refl _) | (with_reducible assumption) | (with_reducible apply Ext.alloc) | (with_reducible apply Ext.drewN) | (with_reducible apply Ext.drew) | (with_reducible apply Ext.grow) | (with_reducible refine Ext.trans ?_ (by with_reducible assumption))))⟩
end Go.Proofs.YtmpndmjfdijamaaGreatDoor
