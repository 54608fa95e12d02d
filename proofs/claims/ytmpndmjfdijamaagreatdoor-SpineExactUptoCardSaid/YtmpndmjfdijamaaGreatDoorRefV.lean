/- The walks of the reference's Make and Add. -/
import Derived.Test.YtmpndmjfdijamaaGreatDoorRefU
set_option linter.unusedVariables false
set_option linter.unusedSimpArgs false
namespace Go.Proofs.YtmpndmjfdijamaaGreatDoor
open Go.RowKit Go.Sort
theorem badE_cases (x : GE) : badE x = (!fair x.w || !rsound x.row) := rfl
theorem any_bad {l : List GE} {k : Nat} {x : GE} (h : l[k]? = some x) (hb : badE x = true) : l.any badE = true := List.any_eq_true.2 ⟨x, List.mem_of_getElem? h, hb⟩
theorem take_bad {l : List GE} (h : ∀ x ∈ l.take l.length, badE x = false) : l.any badE = false := by
  rw [List.take_length] at h
  rw [List.any_eq_false]
  intro x hx
  rw [h x hx]; simp
theorem take_snoc {α : Type} {l : List α} {k : Nat} {x : α} (h : l[k]? = some x) : l.take (k + 1) = l.take k ++ [x] := by rw [List.take_add_one, h]; rfl
set_option maxHeartbeats 8000000 in
set_option maxRecDepth 100000 in
theorem r3Make_any (v : Value) (l : List GE) (w : World) (hl : RdZ w AnyB v l) (hlen : l.length ≤ 2147483648) : Calls Tryz.prog 64 #[v] w (MakePost l w) := by
  have mixed := mixed
  obtain ⟨A, c, rfl, hc⟩ := hl.shape
  have HL := As.mk hl
  have HV := As.mk hl.vals
  clear hl
  have HO0 : As (OwnL 3 (ET (w.alloc (.cells #[] 140)) (Old w.heap.size)) 140 (w.alloc (.cells #[] 140)) w.heap.size (.slice (some ⟨w.heap.size, 0, none⟩) 0 0) []) := ⟨OwnL.made 3 _ 140 w w.heap.size #[] 0 (Nat.le_refl _) (by decide) rfl⟩
  go_enter Tryz.func64, Tryz.ntmps64
  go_wp2_with fail
  go_loopg [4, 5] l.length (fun g s4 s5 wr => ∃ (k : Nat) (ts : List GT), k ≤ l.length ∧ l.length - k ≤ g ∧ s5 = .int .i64 k ∧ As (OwnL 3 (ET wr (Old w.heap.size)) 140 wr w.heap.size s4 ts) ∧ As (Below w.heap.size w wr) ∧ As (TInv (l.take k) ts) ∧ As (∀ x ∈ l.take k, badE x = false))
  case atStart => exact ⟨0, [], by omega, by omega, by go_num, HO0, ⟨(Below.refl _ _).alloc (Nat.le_refl _) _⟩, ⟨by simpa using TInv.nil⟩, ⟨by simp⟩⟩
  case round =>
    obtain ⟨k, ts, hk, hg, rfl, HO, HB, HT, HN⟩ := hrel
    have hsz := HB.out.size
    by_cases hlt : k < l.length
    · have hltz : (k : Int) < (l.length : Int) := by omega
      obtain ⟨x, hx⟩ : ∃ x, l[k]? = some x := ⟨_, List.getElem?_eq_getElem hlt⟩
      have HX := As.mk hx
      obtain ⟨b, o, c', A0, d0, hv, hb, hxi, hrx, e0, e1⟩ := RdZ.ent HL.out hx
      injection hv with hA _ hcc
      subst hA
      replace e0 := (HB.out.cell (World.block_lt_of_cell? w _ e0)).trans e0
      replace e1 := (HB.out.cell (World.block_lt_of_cell? w _ e1)).trans e1
      have HRX : As (RdV wr (Old w.heap.size) (.slice A0 x.row.length d0) x.row) := ⟨(hrx.mv (Stays.old w _)).ext HB.out⟩
      have HVX := As.mk (HV.out x (List.mem_of_getElem? hx))
      have s1 := fun W => r3fair_any x.w W
      have s2 := fun W (hE : Ext wr W) => r2Sound_any _ x.row W ((HRX.out.mv (Stays.any _ _)).ext hE.below)
      have HBC := As.mk (badE_cases x)
      clear hx hrx hcc
      obtain ⟨xr, xw⟩ := x
      simp only at *
      cases hf : fair xw with
      | false =>
        rw [hf] at s1 HBC
        have HFB : As (badE ⟨xr, xw⟩ = true) := ⟨by rw [HBC.out]; rfl⟩
        clear hf HBC s2
        go_wp2_with (go_at_call 62; refine (s1 _).mono ?_; rintro e w1 ⟨rfl, rfl⟩)
        go_ret2
        exact MakePost.bad HB.out (any_bad HX.out HFB.out)
      | true =>
        cases hs : rsound xr with
        | false =>
          rw [hf] at s1
          rw [hs] at s2
          rw [hf, hs] at HBC
          have HFB : As (badE ⟨xr, xw⟩ = true) := ⟨by rw [HBC.out]; rfl⟩
          clear hf hs HBC
          go_wp2_with (first | (go_at_call 62; refine (s1 _).mono ?_; rintro e w1 ⟨rfl, rfl⟩) | (go_at_call 50; refine (s2 _ (Ext.refl _)).mono ?_; rintro e w2 ⟨rfl, hE⟩))
          go_ret2
          exact MakePost.bad (HB.out.trans (hE.below.mono hsz)) (any_bad HX.out HFB.out)
        | true =>
          rw [hf] at s1
          rw [hs] at s2
          rw [hf, hs] at HBC
          have HFB : As (badE ⟨xr, xw⟩ = false) := ⟨by rw [HBC.out]; rfl⟩
          have HTK : As (l.take (k + 1) = l.take k ++ [⟨xr, xw⟩]) := ⟨take_snoc HX.out⟩
          have HST : As (TInv (l.take (k + 1)) (insT ts ⟨xr, xw⟩)) := ⟨by rw [HTK.out]; exact HT.out.step ⟨hs, HVX.out⟩ hf⟩
          have HKL : As ((l.take k).length = k) := ⟨by rw [List.length_take]; omega⟩
          have HP := As.mk (fun W (hE : Ext wr W) => r3put_any w.heap.size w.heap.size _ ts A0 d0 ⟨xr, xw⟩ W ((HO.out.ext hE).imp fun _ _ h => ET.mv h (Stays.below hE.below _)) (Nat.le_refl _) (Nat.le_trans hsz hE.size) (HRX.out.ext hE.below) ⟨hs, HVX.out⟩ hf (fun t ht => HT.out.row t ht) HT.out.rise
            (by have := HT.out.len; have := HKL.out; omega)
            (fun t ht => by have h1 := HT.out.low t ht; rw [HKL.out] at h1; omega)
            (fun t ht => by have h1 := HT.out.high t ht; rw [HKL.out] at h1; omega))
          clear hf hs HBC
          go_wp2_with (first | (go_at_call 62; refine (s1 _).mono ?_; rintro e w1 ⟨rfl, rfl⟩) | (go_at_call 50; refine (s2 _ (Ext.refl _)).mono ?_; rintro e w2 ⟨rfl, hE⟩; have f0 := hE.cell e0; have f1 := hE.cell e1) | (go_at_call 98; refine (HP.out _ hE).mono ?_; rintro e w3 ⟨u3, rfl, hown, hB3⟩))
          go_roundg (l.length - (k + 1))
          case measure => omega
          case rel => exact ⟨k + 1, insT ts ⟨xr, xw⟩, by omega, by omega, by go_num, ⟨hown⟩, ⟨(HB.out.trans (hE.below.mono hsz)).trans hB3⟩, HST, ⟨fun y hy => by
            rw [HTK.out] at hy
            rcases List.mem_append.1 hy with hy | hy
            · exact HN.out y hy
            · rw [List.mem_singleton.1 hy]; exact HFB.out⟩⟩
    · have hltz : ¬ (k : Int) < (l.length : Int) := by omega
      obtain rfl : k = l.length := by omega
      have HNB : As (l.any badE = false) := ⟨take_bad HN.out⟩
      have HT2 : As (TInv l ts) := ⟨by have := HT.out; rwa [List.take_length] at this⟩
      clear HN HT hltz
      obtain ⟨A4, c4, rfl, hc4⟩ := HO.out.shape
      have htl := HT2.out.len
      have HOUT : As (OwnL 2 (EE (wr.alloc (.cells #[] 47)) (Fresh wr.heap.size [55])) 47 (wr.alloc (.cells #[] 47)) wr.heap.size (.slice (some ⟨wr.heap.size, 0, none⟩) 0 0) []) := ⟨OwnL.made 2 _ 47 wr wr.heap.size #[] 0 (Nat.le_refl _) (by decide) rfl⟩
      generalize hwo : wr = wo at *
      clear hwo
      go_wp2_with fail
      go_loopg [6, 7, 8, 9] ts.length (fun g s6 s7 _ _ wr => ∃ (k : Nat), k ≤ ts.length ∧ ts.length - k ≤ g ∧ s7 = .int .i64 k ∧ As (OwnL 2 (EE wr (Fresh wo.heap.size [55])) 47 wr wo.heap.size s6 (outT (ts.take k))) ∧ As (Below wo.heap.size wo wr) ∧ As (∀ t ∈ ts.take k, fair t.sum = true))
      case atStart => exact ⟨0, by omega, by omega, by go_num, HOUT, ⟨(Below.refl _ _).alloc (Nat.le_refl _) _⟩, ⟨by simp⟩⟩
      case round =>
        obtain ⟨k, hk2, hg2, rfl, HOT, HBW, HFR⟩ := hrel
        have hbz := HBW.out.size
        have HBT : As (Below w.heap.size w wr) := ⟨HB.out.trans (HBW.out.mono hsz)⟩
        by_cases hlt2 : k < ts.length
        · have hltz2 : (k : Int) < (ts.length : Int) := by omega
          obtain ⟨g0, rfl⟩ : ∃ g0, A4 = some ⟨g0, 0, none⟩ := by
            obtain ⟨g, c, hv, _⟩ := HO.out.addr (by omega)
            injection hv with h1
            exact ⟨g, h1⟩
          obtain ⟨t, ht⟩ : ∃ t, ts[k]? = some t := ⟨_, List.getElem?_eq_getElem hlt2⟩
          have HTT := As.mk ht
          obtain ⟨At, dt, hrow, hh1, hh2, c0, c1, c2, _, _, _⟩ := (HO.out.below HBW.out).tot ht
          have HROW := As.mk ((hrow.mv (Stays.any _ _)).ext HBW.out)
          have htm := List.mem_of_getElem? ht
          have hlo := HT2.out.low t htm
          have hhi := HT2.out.high t htm
          have HW := As.mk (r3weight_any At t.row.length dt t.high t.low wr (by omega) (by omega))
          have HTK : As (ts.take (k + 1) = ts.take k ++ [t]) := ⟨take_snoc ht⟩
          have HTS : As (t.high * 2147483648 + t.low = t.sum) := ⟨rfl⟩
          have HTM := As.mk htm
          rw [HTS.out] at HW
          clear ht hrow hlo hhi htm hh1 hh2
          obtain ⟨tr, th, tl⟩ := t
          simp only at *
          generalize hs : (GT.mk tr th tl).sum = s at *
          have HSE := As.mk hs
          clear hs HTS
          go_wp2_with fail
          refine HW.out.mono ?_
          rintro e w6 ⟨xw, rfl, hxf, hE6⟩
          have HXF := As.mk hxf
          have hB6 := hE6.below
          have HB6 := As.mk hB6
          have hsz6 := hB6.size
          have d0 := hE6.cell c0
          clear hxf hE6 HW hB6
          cases hfr : fair s with
          | false =>
            have HOV : As (overL l = true) := ⟨HT2.out.over HTM.out (by rw [HSE.out]; exact hfr)⟩
            clear hfr
            go_wp2_with fail
            go_ret2
            exact MakePost.over (HBT.out.trans (HB6.out.mono HBT.out.size)) HNB.out HOV.out
          | true =>
            obtain rfl : xw = s := HXF.out hfr
            have HFX := As.mk hfr
            clear hfr
            have HFR2 : As (∀ t ∈ ts.take (k + 1), fair t.sum = true) := ⟨fun t ht => by
              rw [HTK.out] at ht
              rcases List.mem_append.1 ht with ht | ht
              · exact HFR.out t ht
              · rw [List.mem_singleton.1 ht, HSE.out]; exact HFX.out⟩
            have HOX : As (outT (ts.take (k + 1)) = if xw = 0 then outT (ts.take k) else outT (ts.take k) ++ [⟨tr, xw⟩]) := ⟨by rw [HTK.out, outT_snoc, HSE.out]⟩
            have HO6 : As (OwnL 2 (EE w6 (Fresh wo.heap.size [55])) 47 w6 wo.heap.size u6 (outT (ts.take k))) := ⟨(HOT.out.below HB6.out).imp fun _ _ h => EE.mv h (Stays.below HB6.out _)⟩
            have HBW6 : As (Below wo.heap.size wo w6) := ⟨HBW.out.trans (HB6.out.mono hbz)⟩
            by_cases hs0 : xw = 0
            · subst hs0
              rw [if_pos rfl] at HOX
              go_wp2_with fail
              go_roundg (ts.length - (k + 1))
              case measure => omega
              case rel => exact ⟨k + 1, by omega, by omega, by go_num, ⟨by rw [HOX.out]; exact HO6.out⟩, HBW6, HFR2⟩
            · have hsb : (xw != 0) = true := by simpa using hs0
              rw [if_neg hs0] at HOX
              have HXI := As.mk (fair_i64 HFX.out)
              have HCL := As.mk (r3copied_any (.slice At tr.length dt) tr w6 (HROW.out.ext HB6.out))
              have HLZ : As ((outT (ts.take k)).length < 4294967296) := ⟨by have := outT_len (ts.take k); rw [List.length_take] at this; omega⟩
              generalize outT (ts.take k) = outs at *
              clear hs0
              go_wp2_with (first | (go_at_call 100; refine HCL.out.mono ?_; rintro e w7 ⟨u7, rfl, hu7, hB7⟩; obtain ⟨A7, d7, rfl, _⟩ := hu7.shape; have HU7 := As.mk (hu7.mv (Stays.mono (ok' := Fresh wo.heap.size [55]) fun k t h => ⟨Nat.le_trans HBW6.out.size h.1, h.2⟩)); have HO7 := As.mk ((HO6.out.below hB7).imp fun _ _ h => EE.mv h (Stays.below hB7 _)); have HBW7 := As.mk (HBW6.out.trans (hB7.mono HBW6.out.size)); have hbz := HBW7.out.size; clear hu7 hB7) | (at_builtin; go_loud (refine OwnL.append (W := w7) wo.heap.size rfl (.tmp 58) (.tmp 67) 35 47 _ 2 32 rfl Tryz.underlying35 info_entry rfl (by decide) (by decide) u6 outs ⟨tr, xw⟩ [.slice A7 tr.length d7, .int .i64 xw] rfl rfl (E := EE w7 (Fresh wo.heap.size [55])) ⟨_, rfl, HXI.out, HU7.out⟩ rfl (by simp [Value.oneCell']) HO7.out HBW7.out hbz HLZ.out rfl ?_); intro v1 w8 hown hb' hg' hat; have HO8 := As.mk (hown.imp fun _ _ h => EE.mv h (HO7.out.rowStays hg' (ok := Fresh wo.heap.size [55]) (fun k h => by have := h.2; simp at this))); have HBW8 := As.mk hb'; clear hown hb' hg' hat))
              go_roundg (ts.length - (k + 1))
              case measure => omega
              case rel => exact ⟨k + 1, by omega, by omega, by go_num, ⟨by rw [HOX.out]; exact HO8.out⟩, HBW8, HFR2⟩
        · have hltz2 : ¬ (k : Int) < (ts.length : Int) := by omega
          obtain rfl : k = ts.length := by omega
          rw [List.take_length] at HOT HFR
          have HZ2 : As (RdZ2 wr wo.heap.size u6 (outT ts)) := ⟨HOT.out.rd fun k hk => ⟨hk, by simp⟩⟩
          have HLE : As ((outT ts).length ≤ l.length) := ⟨Nat.le_trans (outT_len ts) htl⟩
          go_wp2_with fail
          go_ret2
          exact MakePost.good HBT.out HNB.out (HT2.out.notOver HFR.out) (HT2.out.made HFR.out) (HZ2.out.low hsz) HLE.out
set_option maxHeartbeats 4000000 in
set_option maxRecDepth 100000 in
theorem r3Add_any (u v : Value) (a b : List GE) (w : World) (ha : RdZ w AnyB u a) (hb : RdZ w AnyB v b) (hl : a.length + b.length ≤ 2147483648) : Calls Tryz.prog 39 #[u, v] w (AddPost a b w) := by
  have h1 := r3Sound_any u a w ha
  have h2 := fun W (hE : Below w.heap.size w W) => r3Sound_any v b W (hb.ext hE)
  obtain ⟨A, c, rfl, _⟩ := ha.shape
  obtain ⟨B, d, rfl, _⟩ := hb.shape
  have HA := As.mk ha
  have HB := As.mk hb
  have HL := As.mk hl
  clear ha hb hl
  cases hsa : zsound a with
  | false =>
    rw [hsa] at h1
    have HS := As.mk hsa
    clear hsa h2
    go_enter Tryz.func39, Tryz.ntmps39
    go_wp2_with (go_at_call 38; refine h1.mono ?_; rintro e w1 ⟨rfl, hE⟩)
    go_ret2
    exact AddPost.bad hE.below (.inl HS.out)
  | true =>
    rw [hsa] at h1
    have HS := As.mk hsa
    clear hsa
    cases hsb : zsound b with
    | false =>
      have HS2 := As.mk hsb
      rw [hsb] at h2
      clear hsb
      go_enter Tryz.func39, Tryz.ntmps39
      go_wp2_with fail
      refine h1.mono ?_
      rintro e w1 ⟨rfl, hE⟩
      go_wp2_with fail
      refine (h2 _ hE.below).mono ?_
      rintro e w2 ⟨rfl, hE2⟩
      go_wp2_with fail
      go_ret2
      exact AddPost.bad (hE.below.trans (hE2.below.mono hE.size)) (.inr HS2.out)
    | true =>
      have HS2 := As.mk hsb
      rw [hsb] at h2
      clear hsb
      go_enter Tryz.func39, Tryz.ntmps39
      go_wp2_with fail
      refine h1.mono ?_
      rintro e w1 ⟨rfl, hE⟩
      go_wp2_with fail
      refine (h2 _ hE.below).mono ?_
      rintro e w2 ⟨rfl, hE2⟩
      have HB2 : As (Below w.heap.size w w2) := ⟨hE.below.trans (hE2.below.mono hE.size)⟩
      have HR1 : As (RdL 2 (EE (w2.alloc (.cells #[] 47)) (Old w2.heap.size)) (w2.alloc (.cells #[] 47)) AnyB (.slice A a.length c) a) := ⟨RdL.move ((HA.out.ext HB2.out).mv (Stays.old w2 _)) (fun _ _ e => EE.mv e (Stays.below (Ext.alloc (Ext.refl w2) _).below _)) ((Stays.below (Ext.alloc (Ext.refl w2) _).below _).trans (Stays.any _ _))⟩
      have HR2 : As (RdL 2 (EE (w2.alloc (.cells #[] 47)) (Old w2.heap.size)) (w2.alloc (.cells #[] 47)) (Old w2.heap.size) (.slice B b.length d) b) := ⟨RdL.move ((HB.out.ext HB2.out).mv (Stays.old w2 _)) (fun _ _ e => EE.mv e (Stays.below (Ext.alloc (Ext.refl w2) _).below _)) (Stays.below (Ext.alloc (Ext.refl w2) _).below _)⟩
      have HO0 : As (OwnL 2 (EE (w2.alloc (.cells #[] 47)) (Old w2.heap.size)) 47 (w2.alloc (.cells #[] 47)) w2.heap.size (.slice (some ⟨w2.heap.size, 0, none⟩) 0 0) []) := ⟨OwnL.made 2 _ 47 w2 w2.heap.size #[] 0 (Nat.le_refl _) (by decide) rfl⟩
      have HB0 : As (Below w2.heap.size w2 (w2.alloc (.cells #[] 47))) := ⟨(Below.refl _ _).alloc (Nat.le_refl _) _⟩
      have HL1 : As (([] : List GE).length + a.length ≤ 4294967296) := ⟨by have := HL.out; simp; omega⟩
      have HL2 : As (a.length + b.length ≤ 4294967296) := ⟨by have := HL.out; omega⟩
      have HBZ : As (w2.heap.size ≤ (w2.alloc (.cells #[] 47)).heap.size) := ⟨by simp⟩
      obtain ⟨l, hlab⟩ : ∃ l, l = a ++ b := ⟨_, rfl⟩
      have HLAB := As.mk hlab
      clear h1 h2 hE hE2 hlab
      go_wp2_with (first | (at_builtin; (refine OwnL.appends2 (α := GE) (W := w2.alloc (.cells #[] 47)) w2.heap.size rfl (.tmp 16) (.tmp 17) 34 35 47 47 _ 2 32 rfl Tryz.underlying34 Tryz.underlying35 info_entry rfl (by decide) (by decide) _ [] a _ _ _ rfl rfl HR1.out HO0.out HB0.out HBZ.out HL1.out ?_); intro v3 w3 hown hb3 hg3 hat3; rw [List.nil_append] at hown; obtain ⟨A3, c3, rfl, _⟩ := hown.shape; have HO3 := As.mk hown; have HB3 := As.mk hb3; have HR3 := As.mk (RdL.move HR2.out (fun _ _ e => e) ((Stays.grown hg3 (Old w2.heap.size) (fun g t cells fr hgb hh ho => by have h1 := (HO0.out.lt g hgb).1; have h2 : g < w2.heap.size := ho; omega)).trans (Stays.any _ _))); have HBZ3 := As.mk hb3.size; clear hown hb3 hg3 hat3) | (at_builtin; (refine OwnL.appends2 (α := GE) (W := w3) w2.heap.size rfl (.tmp 19) (.tmp 20) 34 35 47 47 _ 2 32 rfl Tryz.underlying34 Tryz.underlying35 info_entry rfl (by decide) (by decide) _ a b _ _ _ rfl rfl HR3.out HO3.out HB3.out HBZ3.out HL2.out ?_); intro v4 w4 hown hb4 hg4 hat4; rw [← HLAB.out] at hown; obtain ⟨A4, c4, rfl, _⟩ := hown.shape; have HO4 := As.mk hown; have HB4 := As.mk hb4; clear hown hb4 hg4 hat4))
      have hst : Stays (w2.alloc (.cells #[] 47)) w4 (Old w2.heap.size) (Old w2.heap.size) := fun k t cells fr ho hh => ⟨ho, by
        have hk : k < w2.heap.size := ho.1
        rw [HB4.out.block k hk, ← hh, HB0.out.block k hk]⟩
      have HRAB : As (RdZ w4 AnyB (.slice A4 l.length c4) l) := ⟨RdL.move (HO4.out.rd (ok := AnyB) fun _ _ => trivial) (fun _ _ e => EE.mv e (hst.trans (Stays.any _ _))) (Stays.any _ _)⟩
      have hm := r3Make_any _ l w4 HRAB.out (by rw [HLAB.out, List.length_append]; exact HL.out)
      clear hst
      go_wp2_with fail
      refine hm.mono ?_
      rintro e w5 hpost
      have HP := As.mk hpost
      obtain ⟨A5, n5, c5, k5, rfl⟩ := hpost.shape
      clear hpost hm
      go_wp2_with fail
      go_ret2
      have hp := HP.out
      rw [HLAB.out] at hp
      exact AddPost.of (HB2.out.trans (HB4.out.mono HB2.out.size)) HS.out HS2.out hp
end Go.Proofs.YtmpndmjfdijamaaGreatDoor
