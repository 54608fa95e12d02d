/- The walk of the law's copied. -/
import Derived.Test.YtflckpfpgpfjlaaGreatDoorMKb
set_option linter.unusedVariables false
set_option linter.unusedSimpArgs false
namespace Go.Proofs.YtflckpfpgpfjlaaGreatDoor
open Go.RowKit Go.Sort
def CopyPost (z : List GE) (w : World) (e : Ending) (w' : World) : Prop := ∃ (A : Option Addr) (c : Nat), e = .returned (.slice A z.length c) ∧ RdZ2 w' w.heap.size (.slice A z.length c) z ∧ Below w.heap.size w w'
set_option maxRecDepth 100000 in
set_option maxHeartbeats 4000000 in
theorem lCopied_any (v : Value) (z : List GE) (w : World) (hz : RdZ w AnyB v z) (hr : ∀ x ∈ z, x.row.length ≤ 1024) : Calls Tryz.prog 18 #[v] w (CopyPost z w) := by
  have mixed := mixed
  obtain ⟨A, c, rfl, _⟩ := hz.shape
  have hl := hz.len
  have HZ := As.mk hz
  have HR := As.mk hr
  clear hz hr
  have HO0 := As.mk (OwnL.made 2 (EE (w.alloc (.cells #[] 66)) (Fresh w.heap.size [96])) 66 w w.heap.size #[] 0 (Nat.le_refl _) (by decide) rfl)
  have HB0 : As (Below w.heap.size w (w.alloc (.cells #[] 66))) := ⟨(Ext.alloc (Ext.refl _) _).below⟩
  go_enter Tryz.func18, Tryz.ntmps18
  go_wp2_with fail
  go_loopg [3, 4, 5] z.length (fun g s3 s4 _ wr => ∃ k : Nat, k ≤ z.length ∧ z.length - k ≤ g ∧ s4 = .int .i64 k ∧ As (OwnL 2 (EE wr (Fresh w.heap.size [96])) 66 wr w.heap.size s3 (z.take k)) ∧ As (Below w.heap.size w wr))
  case atStart => exact ⟨0, Nat.zero_le _, by omega, rfl, HO0, HB0⟩
  case round =>
    obtain ⟨k, hk, hg, rfl, HO, HB⟩ := hrel
    clear HO0 HB0
    by_cases hlt : k < z.length
    · have hltz : (k : Int) < (z.length : Int) := by omega
      obtain ⟨x, hx⟩ : ∃ x, z[k]? = some x := ⟨_, List.getElem?_eq_getElem hlt⟩
      have HSN : As (z.take (k + 1) = z.take k ++ [x]) := ⟨by rw [List.take_add_one, hx]; rfl⟩
      have hx1024 := HR.out x (List.mem_of_getElem? hx)
      obtain ⟨b1, o1, c1', Ax, dx, hv, hb1, hxw, hrow, x0, x1⟩ := RdZ.ent (HZ.out.ext HB.out) hx
      injection hv with hA _ hcc
      subst hA hcc
      have HXW := As.mk hxw
      have hE4 : Ext wr (wr.alloc (.cells #[] 96)) := Ext.alloc (Ext.refl _) _
      have HROW := As.mk (hrow.ext hE4.below)
      have HR0 := As.mk (OwnL.made 4 EV 96 wr wr.heap.size #[] 0 (Nat.le_refl _) (by decide) rfl)
      have HE4B : As (Below wr.heap.size wr (wr.alloc (.cells #[] 96))) := ⟨hE4.below⟩
      have y0 := hE4.cell x0
      have y1 := hE4.cell x1
      have HLZ : As ((z.take k).length < 4294967296) := ⟨by rw [List.length_take]; omega⟩
      clear hx hrow hE4 hxw
      obtain ⟨xr, xw⟩ := x
      simp only at *
      generalize z.take k = pre at *
      go_wp2_with (at_builtin; first | (refine OwnL.appends (w0 := wr) (W := wr.alloc (.cells #[] 96)) wr.heap.size rfl (.tmp 14) (.tmp 19) 64 96 _ 4 40 rfl Tryz.underlying64 info_val rfl (by decide) (by decide) _ [] xr _ _ _ rfl rfl HROW.out HR0.out HE4B.out HE4B.out.size (by simp; omega) ?_; intro v1 w5 hown hb5 hg5 hat5; rw [List.nil_append] at hown; have q1 := bc hb5 x1; obtain ⟨A9, c9, rfl, _⟩ := hown.shape; have HRW := As.mk (hown.rd (ok := Fresh w.heap.size [96]) (fun k hk => ⟨Nat.le_trans HB.out.size hk, by simp⟩)); have HO5 := As.mk ((HO.out.below hb5).imp fun _ _ h => EE.mv h (Stays.below hb5 _)); have HB5 := As.mk (HB.out.trans (hb5.mono HB.out.size)); have hs5 := HB5.out.size; clear hown hb5 hg5 hat5) | (refine OwnL.append (E := EE w5 (Fresh w.heap.size [96])) (W := w5) (w0 := w) w.heap.size rfl (.tmp 21) (.tmp 29) 35 66 _ 2 32 rfl Tryz.underlying35 info_entry rfl (by decide) (by decide) _ pre ⟨xr, xw⟩ [.slice A9 xr.length c9, .int .i64 xw] rfl rfl ⟨_, rfl, HXW.out, HRW.out⟩ rfl (by simp [Value.oneCell']) HO5.out HB5.out hs5 HLZ.out rfl ?_; intro v8 w8 hown hb8 hg8 hat8; have HO8 := As.mk (hown.imp fun _ _ h => EE.mv h (HO5.out.rowStays hg8 (ok := Fresh w.heap.size [96]) (fun k h => by have := h.2; simp at this))); have HB8 := As.mk hb8; clear hown hb8 hg8 hat8))
      go_roundg (z.length - (k + 1))
      case measure => omega
      case rel => exact ⟨k + 1, by omega, by omega, by go_num, ⟨by rw [HSN.out]; exact HO8.out⟩, HB8⟩
    · have hltz : ¬ (k : Int) < (z.length : Int) := by omega
      obtain rfl : k = z.length := by omega
      rw [List.take_length] at HO
      obtain ⟨A9, c9, rfl, _⟩ := HO.out.shape
      go_wp2_with fail
      go_ret
      exact ⟨A9, c9, rfl, HO.out.rd (ok := Fresh w.heap.size [66]) (fun k hk => ⟨hk, by simp⟩), HB.out⟩
end Go.Proofs.YtflckpfpgpfjlaaGreatDoor
