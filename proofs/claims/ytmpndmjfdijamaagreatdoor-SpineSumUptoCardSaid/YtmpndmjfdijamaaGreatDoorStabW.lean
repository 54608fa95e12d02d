/- The walks of the stable sort at entries: swapRange, rotate, symMerge, stable. -/
import Derived.Test.YtmpndmjfdijamaaGreatDoorStab
set_option linter.unusedVariables false
set_option linter.unusedSimpArgs false
namespace Go.Proofs.YtmpndmjfdijamaaGreatDoor
open Go.RowKit Go.Sort Go.Shelf Go.Lib
section
variable {α : Type} [Inhabited α] {enc : α → List Value} {w0 : World} {blk off : Nat} {d0 : Array α}
/-- An entry's two cells. -/
def Pairs (enc : α → List Value) : Prop := ∀ x, ∃ (A : Option Addr) (n c : Nat) (m : Int), enc x = [.slice A n c, .int .i64 m]
/-- All that an exchange of two places wants and leaves. -/
structure Exch (enc : α → List Value) (w0 : World) (blk off : Nat) (dk : Array α) (W : World) (p q : Nat) (u0 u1 v0 v1 : Value) : Prop where
  a0 : W.cell? ⟨blk, off + p * 2, none⟩ = some u0
  a1 : W.cell? ⟨blk, off + p * 2 + 1, none⟩ = some u1
  b0 : W.cell? ⟨blk, off + q * 2, none⟩ = some v0
  b1 : W.cell? ⟨blk, off + q * 2 + 1, none⟩ = some v1
  f0 : W.frozen? ⟨blk, off + p * 2, none⟩ = false
  f1 : W.frozen? ⟨blk, off + p * 2 + 1, none⟩ = false
  g0 : W.frozen? ⟨blk, off + q * 2, none⟩ = false
  g1 : W.frozen? ⟨blk, off + q * 2 + 1, none⟩ = false
  e1 : enc dk[p]! = [u0, u1]
  e2 : enc dk[q]! = [v0, v1]
  out : SWK enc 2 w0 blk off (swp dk p q) ((((W.drew.setCell ⟨blk, off + p * 2, none⟩ v0).setCell ⟨blk, off + p * 2 + 1, none⟩ v1).setCell ⟨blk, off + q * 2, none⟩ u0).setCell ⟨blk, off + q * 2 + 1, none⟩ u1)
theorem exch {dk : Array α} {W : World} (hP : Pairs enc) (S : SWK enc 2 w0 blk off dk W) (R : RowK enc 2 w0 blk off d0) (hs : dk.size = d0.size) (p q : Nat) (hp : p < dk.size) (hq : q < dk.size) :
    ∃ A n c m B k d l, Exch enc w0 blk off dk W p q (.slice A n c) (.int .i64 m) (.slice B k d) (.int .i64 l) := by
  have hH := S.holds R.hblk R.hH hs
  obtain ⟨p0, p0'⟩ := hH.cell hp (show 0 < 2 by omega)
  obtain ⟨p1, p1'⟩ := hH.cell hp (show 1 < 2 by omega)
  obtain ⟨q0, q0'⟩ := hH.cell hq (show 0 < 2 by omega)
  obtain ⟨q1, q1'⟩ := hH.cell hq (show 1 < 2 by omega)
  obtain ⟨A, n, c, m, e1⟩ := hP dk[p]!
  obtain ⟨B, k, d, l, e2⟩ := hP dk[q]!
  have hw := S.swapped R p q hp hq
  rw [e1] at p0 p1 hw
  rw [e2] at q0 q1 hw
  exact ⟨A, n, c, m, B, k, d, l, p0, p1, q0, q1, p0', p1', q0', q1', e1, e2, hw⟩
set_option maxHeartbeats 4000000 in
set_option maxRecDepth 1000000 in
theorem swapRange_any (hP : Pairs enc) (R : RowK enc 2 w0 blk off d0) (cap a b n : Nat) (g : Nat) (d : Array α) (w : World) (hs : d0.size = d.size) (S : SWK enc 2 w0 blk off d w) (hab : a + n ≤ b) (hb : b + n ≤ d.size) (hsz : d.size < 4611686018427387904) :
    Calls Tryz.prog 158 #[.slice (some ⟨blk, off, none⟩) d.size cap, .int .i64 a, .int .i64 b, .int .i64 n, .func (.func g) #[] #[]] w fun e w' => e = .returned (.tuple #[]) ∧ SWK enc 2 w0 blk off (swapR d a b n) w' := by
  have S0 := As.mk S
  have mixed := mixed
  clear S
  go_enter Tryz.func158, Tryz.ntmps158
  go_wp2
  go_loopg [10] n (fun kx s10 wr => ∃ (i : Nat), i ≤ n ∧ n - i ≤ kx ∧ s10 = .int .i64 i ∧ As (SWK enc 2 w0 blk off (swapR d a b i) wr))
  case atStart => exact ⟨0, by omega, by omega, by go_num, S0⟩
  case round =>
    obtain ⟨i, hi, hk, rfl, S1⟩ := hrel
    by_cases hlt : i < n
    · have hltz : (i : Int) < (n : Int) := by omega
      have hds := size_swapR d a b i
      have HSW : As (swapR d a b (i + 1) = swp (swapR d a b i) (a + i) (b + i)) := ⟨rfl⟩
      generalize swapR d a b i = dk at *
      have ea44 : ((a : Int) + (i : Int)).toNat = a + i := by omega
      have pa44 : (0 : Int) ≤ (a : Int) + (i : Int) := by omega
      have ba44 : (a : Int) + (i : Int) < (d.size : Int) := by omega
      have ra44 : IntKind.i64.wrap ((a : Int) + (i : Int)) = (a : Int) + (i : Int) := by rw [IntKind.wrap_i64]; omega
      have ec44 : ((b : Int) + (i : Int)).toNat = b + i := by omega
      have pc44 : (0 : Int) ≤ (b : Int) + (i : Int) := by omega
      have bc44 : (b : Int) + (i : Int) < (d.size : Int) := by omega
      have rc44 : IntKind.i64.wrap ((b : Int) + (i : Int)) = (b : Int) + (i : Int) := by rw [IntKind.wrap_i64]; omega
      obtain ⟨A1, n1, c1, m1, B1, k1, d1, l1, X⟩ := exch hP S1.out R (by omega) (a + i) (b + i) (by omega) (by omega)
      have XO := As.mk X.out
      obtain ⟨a0, a1, b0, b1, f0, f1, g0, g1, _, _, _⟩ := X
      clear S1
      go_wp2_with fail
      go_big_region_o
      go_wp2
      go_roundg (n - (i + 1))
      case measure => omega
      case rel => exact ⟨i + 1, by omega, by omega, by go_num, ⟨by rw [HSW.out]; exact XO.out⟩⟩
    · have hltz : ¬ (i : Int) < (n : Int) := by omega
      obtain rfl : i = n := by omega
      go_wp2
      go_end0
      exact ⟨rfl, S1.out⟩
set_option maxHeartbeats 4000000 in
set_option maxRecDepth 1000000 in
theorem rotate_any (hP : Pairs enc) (R : RowK enc 2 w0 blk off d0) (cap a m b : Nat) (g : Nat) (d : Array α) (w : World) (hs : d0.size = d.size) (S : SWK enc 2 w0 blk off d w) (ham : a < m) (hmb : m < b) (hb : b ≤ d.size) (hsz : d.size < 4611686018427387904) :
    Calls Tryz.prog 150 #[.slice (some ⟨blk, off, none⟩) d.size cap, .int .i64 a, .int .i64 m, .int .i64 b, .func (.func g) #[] #[]] w fun e w' => e = .returned (.tuple #[]) ∧
      ∃ d', SWK enc 2 w0 blk off d' w' ∧ d'.size = d.size ∧ PermIn a b d d' ∧ ∀ k, d'[k]! = rotF (fun k => d[k]!) a m b k := by
  have S0 := As.mk S
  have HR := As.mk R
  have HP := As.mk hP
  have w1 : IntKind.i64.wrap ((m : Int) - a) = (m : Int) - a := by rw [IntKind.wrap_i64]; omega
  have w2 : IntKind.i64.wrap ((b : Int) - m) = (b : Int) - m := by rw [IntKind.wrap_i64]; omega
  clear S R hP
  go_enter Tryz.func150, Tryz.ntmps150
  go_wp2
  go_loopg [10, 11] (b - a) (fun kx s10 s11 wr => ∃ (i j : Nat) (dk : Array α), i + j ≤ kx ∧ 0 < i ∧ 0 < j ∧ i ≤ m ∧ a ≤ m - i ∧ m + j ≤ b ∧ s10 = .int .i64 i ∧ s11 = .int .i64 j ∧ dk.size = d.size ∧ As (SWK enc 2 w0 blk off dk wr) ∧ As (PermIn a b d dk) ∧ As (∀ k, rotF (fun k => dk[k]!) (m - i) m (m + j) k = rotF (fun k => d[k]!) a m b k))
  case atStart => exact ⟨m - a, b - m, d, by omega, by omega, by omega, by omega, by omega, by omega, by rw [show ((m - a : Nat) : Int) = (m : Int) - a by omega], by rw [show ((b - m : Nat) : Int) = (b : Int) - m by omega], rfl, S0, ⟨permIn_refl _ _ _⟩, ⟨fun k => by rw [show m - (m - a) = a by omega, show m + (b - m) = b by omega]⟩⟩
  case round =>
    obtain ⟨i, j, dk, hk, hi, hj, him, hai, hjb, rfl, rfl, hds, S1, P1, T1⟩ := hrel
    rcases Nat.lt_trichotomy i j with hij | hij | hij
    · have hne : ((i : Int) != (j : Int)) = true := by rw [bne_iff_ne]; omega
      have hgt : ¬ (j : Int) < (i : Int) := by omega
      have x1 : IntKind.i64.wrap ((m : Int) - i) = (m : Int) - i := by rw [IntKind.wrap_i64]; omega
      have x2 : IntKind.i64.wrap ((m : Int) + j) = (m : Int) + j := by rw [IntKind.wrap_i64]; omega
      have x3 : IntKind.i64.wrap ((m : Int) + j - i) = (m : Int) + j - i := by rw [IntKind.wrap_i64]; omega
      have x4 : IntKind.i64.wrap ((j : Int) - i) = (j : Int) - i := by rw [IntKind.wrap_i64]; omega
      have hc := swapRange_any HP.out HR.out cap (m - i) (m + j - i) i g dk wr (by omega) S1.out (by omega) (by omega) (by omega)
      rw [hds, show ((m - i : Nat) : Int) = (m : Int) - i by omega, show ((m + j - i : Nat) : Int) = (m : Int) + j - i by omega] at hc
      have HSZ := As.mk (size_swapR dk (m - i) (m + j - i) i)
      have HPP := As.mk (permIn_trans _ _ _ _ _ P1.out (swapR_perm dk (a := m - i) (b := m + j - i) (lo := a) (hi := b) (n := i) (by omega) (by omega) (by omega) (by omega) (by omega)))
      have HTT := As.mk (fun k => (rot_lt dk (i := i) (j := j) (m := m) hij him (by omega) k).trans (T1.out k))
      have HDS := As.mk hds
      clear hds
      go_wp2_with fail
      refine hc.mono ?_
      rintro e w3 ⟨rfl, hS3⟩
      have HS3 := As.mk hS3
      clear hc hS3
      go_wp2_with fail
      go_roundg (i + (j - i))
      case measure => omega
      case rel => exact ⟨i, j - i, _, by omega, by omega, by omega, by omega, by omega, by omega, rfl, by rw [show ((j - i : Nat) : Int) = (j : Int) - i by omega], HSZ.out.trans HDS.out, HS3, HPP, HTT⟩
    · have hne : ((i : Int) != (j : Int)) = false := by rw [bne_eq_false_iff_eq]; omega
      subst hij
      have x1 : IntKind.i64.wrap ((m : Int) - i) = (m : Int) - i := by rw [IntKind.wrap_i64]; omega
      have hc := swapRange_any HP.out HR.out cap (m - i) m i g dk wr (by omega) S1.out (by omega) (by omega) (by omega)
      rw [hds, show ((m - i : Nat) : Int) = (m : Int) - i by omega] at hc
      have HSZ := As.mk (size_swapR dk (m - i) m i)
      have HPP := As.mk (permIn_trans _ _ _ _ _ P1.out (swapR_perm dk (a := m - i) (b := m) (lo := a) (hi := b) (n := i) (by omega) (by omega) (by omega) (by omega) (by omega)))
      have HTT := As.mk (fun k => (rot_eq dk (i := i) (m := m) him (by omega) k).trans (T1.out k))
      have HDS := As.mk hds
      clear hds
      go_wp2_with fail
      refine hc.mono ?_
      rintro e w3 ⟨rfl, hS3⟩
      have HS3 := As.mk hS3
      clear hc hS3
      go_wp2_with fail
      go_end0
      exact ⟨rfl, _, HS3.out, HSZ.out.trans HDS.out, HPP.out, HTT.out⟩
    · have hne : ((i : Int) != (j : Int)) = true := by rw [bne_iff_ne]; omega
      have hgt : (j : Int) < (i : Int) := by omega
      have x1 : IntKind.i64.wrap ((m : Int) - i) = (m : Int) - i := by rw [IntKind.wrap_i64]; omega
      have x4 : IntKind.i64.wrap ((i : Int) - j) = (i : Int) - j := by rw [IntKind.wrap_i64]; omega
      have hc := swapRange_any HP.out HR.out cap (m - i) m j g dk wr (by omega) S1.out (by omega) (by omega) (by omega)
      rw [hds, show ((m - i : Nat) : Int) = (m : Int) - i by omega] at hc
      have HSZ := As.mk (size_swapR dk (m - i) m j)
      have HPP := As.mk (permIn_trans _ _ _ _ _ P1.out (swapR_perm dk (a := m - i) (b := m) (lo := a) (hi := b) (n := j) (by omega) (by omega) (by omega) (by omega) (by omega)))
      have HTT := As.mk (fun k => (rot_gt dk (i := i) (j := j) (m := m) hij him (by omega) k).trans (T1.out k))
      have HDS := As.mk hds
      clear hds
      go_wp2_with fail
      refine hc.mono ?_
      rintro e w3 ⟨rfl, hS3⟩
      have HS3 := As.mk hS3
      clear hc hS3
      go_wp2_with fail
      go_roundg (i - j + j)
      case measure => omega
      case rel => exact ⟨i - j, j, _, by omega, by omega, by omega, by omega, by omega, by omega, by rw [show ((i - j : Nat) : Int) = (i : Int) - j by omega], rfl, HSZ.out.trans HDS.out, HS3, HPP, HTT⟩
end
end Go.Proofs.YtmpndmjfdijamaaGreatDoor
