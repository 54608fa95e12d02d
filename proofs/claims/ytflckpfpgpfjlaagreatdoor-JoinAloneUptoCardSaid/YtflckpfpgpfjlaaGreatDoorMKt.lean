/- The walk of the law's turned. -/
import Derived.Test.YtflckpfpgpfjlaaGreatDoorMKb
import Derived.Test.YtflckpfpgpfjlaaGreatDoorMJsr
set_option linter.unusedVariables false
set_option linter.unusedSimpArgs false
namespace Go.Proofs.YtflckpfpgpfjlaaGreatDoor
open Go.RowKit Go.Sort
def TurnPost (n : Nat) (z : List GE) (w : World) (e : Ending) (w' : World) : Prop := ∃ (A : Option Addr) (c : Nat) (y : List GE), e = .returned (.slice A y.length c) ∧ Made (turnedL n z) y ∧ RdZ2 w' w.heap.size (.slice A y.length c) y ∧ Below w.heap.size w w'
theorem turned_snoc {n k : Nat} {z : List GE} {x : GE} (hx : z[k]? = some x) : turnedL n (z.take (k + 1)) = turnedL n (z.take k) ++ [⟨x.row.drop n ++ x.row.take n, x.w⟩] := by
  unfold turnedL
  rw [List.take_add_one, hx, List.map_append]
  rfl
set_option maxRecDepth 100000 in
set_option maxHeartbeats 4000000 in
theorem lTurned_any (v : Value) (z : List GE) (n m : Nat) (w : World) (hz : RdZ w AnyB v z) (hp : ∀ x ∈ z, Pair n m x.row) (hok : ZOk z) (hf : FairZ z) (hw : n + m ≤ 1024) (hl : z.length ≤ 4294967296) :
    Calls Tryz.prog 17 #[v, .int .i64 n] w (TurnPost n z w) := by
  have mixed := mixed
  obtain ⟨A, c, rfl, _⟩ := hz.shape
  obtain ⟨i0, hi0, hzz⟩ := Option.map_eq_some_iff.1 info_val
  simp only [Prod.mk.injEq] at hzz
  obtain ⟨hz0, hz1, hz2⟩ := hzz
  have HI0 := As.mk hi0
  have HZ1 := As.mk hz1
  obtain ⟨t1, t2, t3⟩ := turned_ok hw hok hf hp
  have HT12 := As.mk (show ((turnedL n z).any badE || overL (turnedL n z)) = false by rw [t1, t2]; rfl)
  have HZ := As.mk hz
  have HPR := As.mk hp
  have HF := As.mk hf
  clear hi0 hz0 hz1 hz2 t1 t2 t3 hz hp hok hf
  have HO0 := As.mk (OwnL.made 2 (EE (w.alloc (.cells #[] 66)) (Fresh w.heap.size [96])) 66 w w.heap.size #[] 0 (Nat.le_refl _) (by decide) rfl)
  have HB0 : As (Below w.heap.size w (w.alloc (.cells #[] 66))) := ⟨(Ext.alloc (Ext.refl _) _).below⟩
  go_enter Tryz.func17, Tryz.ntmps17
  go_wp2_with fail
  go_loopg [5, 6, 7] z.length (fun g s5 s6 _ wr => ∃ k : Nat, k ≤ z.length ∧ z.length - k ≤ g ∧ s6 = .int .i64 k ∧ As (OwnL 2 (EE wr (Fresh w.heap.size [96])) 66 wr w.heap.size s5 (turnedL n (z.take k))) ∧ As (Below w.heap.size w wr))
  case atStart => exact ⟨0, Nat.zero_le _, by omega, rfl, HO0, HB0⟩
  case round =>
    obtain ⟨k, hk, hg, rfl, HO, HB⟩ := hrel
    clear HO0 HB0
    by_cases hlt : k < z.length
    · have hltz : (k : Int) < (z.length : Int) := by omega
      obtain ⟨x, hx⟩ : ∃ x, z[k]? = some x := ⟨_, List.getElem?_eq_getElem hlt⟩
      have HSN := As.mk (turned_snoc (n := n) hx)
      have hpx := (HPR.out x (List.mem_of_getElem? hx)).len
      obtain ⟨b1, o1, c1', Ax, dx, hv, hb1, hxw, hrow, x0, x1⟩ := RdZ.ent (HZ.out.ext HB.out) hx
      injection hv with hA _ hcc
      subst hA hcc
      have HXW := As.mk hxw
      have hE4 : Ext wr (wr.alloc (.cells #[] 96)) := Ext.alloc (Ext.refl _) _
      have hnl : n ≤ x.row.length := by omega
      have hx1024 : x.row.length ≤ 1024 := by omega
      obtain ⟨Ac, hslc, hrc⟩ := RdL.from Tryz.underlying64 HI0.out HZ1.out (hrow.ext hE4.below) n hnl .i64
      obtain ⟨hup, _⟩ := RdL.upto Tryz.underlying64 HI0.out HZ1.out (hrow.ext hE4.below) n hnl .i64
      have HRC := As.mk hrc
      have HROW := As.mk hrow
      have HR0 := As.mk (OwnL.made 4 EV 96 wr wr.heap.size #[] 0 (Nat.le_refl _) (by decide) rfl)
      have HE4B : As (Below wr.heap.size wr (wr.alloc (.cells #[] 96))) := ⟨hE4.below⟩
      have y0 := hE4.cell x0
      have y1 := hE4.cell x1
      have HLZ : As ((turnedL n (z.take k)).length < 4294967296) := ⟨by unfold turnedL; rw [List.length_map, List.length_take]; omega⟩
      have hld : (x.row.drop n).length = x.row.length - n := List.length_drop ..
      have HLD : As ((x.row.drop n).length ≤ 1024) := ⟨by omega⟩
      have HLT : As ((x.row.drop n).length + (x.row.take n).length ≤ 1024) := ⟨by rw [List.length_take]; omega⟩
      clear hx hrow hrc hE4 hpx hld hxw
      obtain ⟨xr, xw⟩ := x
      simp only at *
      generalize turnedL n (z.take k) = pre at *
      generalize hdr : xr.drop n = rd at *
      generalize htk : xr.take n = rt at *
      go_wp2_with (at_builtin; first | (refine OwnL.appends (w0 := wr) (W := wr.alloc (.cells #[] 96)) wr.heap.size rfl (.tmp 18) (.tmp 25) 64 96 _ 4 40 rfl Tryz.underlying64 info_val rfl (by decide) (by decide) _ [] rd _ _ _ rfl rfl HRC.out HR0.out HE4B.out HE4B.out.size (by have := HLD.out; simp; omega) ?_; intro v1 w4 hown hb4 hg4 hat4; rw [List.nil_append] at hown; have p0 := bc hb4 x0; have p1 := bc hb4 x1; have HO4 := As.mk hown; have HB4 := As.mk hb4; have hrt := (RdL.upto Tryz.underlying64 HI0.out HZ1.out (RdV.ext HROW.out hb4) n hnl .i64).2; rw [htk] at hrt; have HRT := As.mk hrt; clear hown hb4 hg4 hat4 hrt) | (refine OwnL.appends (w0 := wr) (W := w4) wr.heap.size rfl (.tmp 27) (.tmp 34) 64 96 _ 4 40 rfl Tryz.underlying64 info_val rfl (by decide) (by decide) _ rd rt _ _ _ rfl rfl HRT.out HO4.out HB4.out HB4.out.size (by have := HLT.out; omega) ?_; intro v2 w5 hown hb5 hg5 hat5; have q1 := bc hb5 x1; generalize rd ++ rt = row at *; obtain ⟨A9, c9, rfl, _⟩ := hown.shape; have HRW := As.mk (hown.rd (ok := Fresh w.heap.size [96]) (fun k hk => ⟨Nat.le_trans HB.out.size hk, by simp⟩)); have HO5 := As.mk ((HO.out.below hb5).imp fun _ _ h => EE.mv h (Stays.below hb5 _)); have HB5 := As.mk (HB.out.trans (hb5.mono HB.out.size)); have hs5 := HB5.out.size; clear hown hb5 hg5 hat5) | (refine OwnL.append (E := EE w5 (Fresh w.heap.size [96])) (W := w5) (w0 := w) w.heap.size rfl (.tmp 36) (.tmp 44) 34 66 _ 2 32 rfl Tryz.underlying34 info_entry rfl (by decide) (by decide) _ pre ⟨row, xw⟩ [.slice A9 row.length c9, .int .i64 xw] rfl rfl ⟨_, rfl, HXW.out, HRW.out⟩ rfl (by simp [Value.oneCell']) HO5.out HB5.out hs5 HLZ.out rfl ?_; intro v8 w8 hown hb8 hg8 hat8; have HO8 := As.mk (hown.imp fun _ _ h => EE.mv h (HO5.out.rowStays hg8 (ok := Fresh w.heap.size [96]) (fun k h => by have := h.2; simp at this))); have HB8 := As.mk hb8; clear hown hb8 hg8 hat8))
      go_roundg (z.length - (k + 1))
      case measure => omega
      case rel => exact ⟨k + 1, by omega, by omega, by go_num, ⟨by rw [HSN.out]; exact HO8.out⟩, HB8⟩
    · have hltz : ¬ (k : Int) < (z.length : Int) := by omega
      obtain rfl : k = z.length := by omega
      rw [List.take_length] at HO
      have hrd : RdZ wr AnyB _ (turnedL n z) := RdL.move (HO.out.rd (ok := AnyB) fun _ _ => trivial) (fun _ _ e => EE.mv e (Stays.any _ _)) (Stays.any _ _)
      obtain ⟨A9, c9, rfl, _⟩ := hrd.shape
      have HMK := As.mk (make_any _ (turnedL n z) wr hrd)
      clear hrd
      generalize htl : turnedL n z = pl at *
      have HTL := As.mk htl
      clear htl
      go_wp2_with (go_at_call 28; refine HMK.out.mono ?_; rintro e w7 hm; obtain ⟨A7', n7, c7', k7, rfl, hB7, hc7⟩ := hm.cases; have hc := hc7.resolve_left (fun e => by have h := e.2; rw [HT12.out] at h; cases h); obtain ⟨rfl, _, dd, hmd, hrr⟩ := hc; obtain ⟨A8, c8, hv8, _⟩ := hrr.shape; injection hv8 with hA8 hn8 hc8; subst hA8 hn8 hc8; have HB7 := As.mk hB7; have HMD := As.mk hmd; have HRR := As.mk hrr; clear hm hB7 hc7 hmd hrr)
      go_ret
      exact ⟨_, _, dd, rfl, by rw [HTL.out]; exact HMD.out, HRR.out.low HB.out.size, HB.out.trans (HB7.out.mono HB.out.size)⟩
end Go.Proofs.YtflckpfpgpfjlaaGreatDoor
