/- The walk of the law SpineMemory. -/
import Derived.Test.YtmpndmjfdijamaaGreatDoorTold
import Derived.Test.YtmpndmjfdijamaaGreatDoorAwake2
import Derived.Test.YtmpndmjfdijamaaGreatDoorSpoil
set_option linter.unusedVariables false
set_option linter.unusedSimpArgs false
namespace Go.Proofs.YtmpndmjfdijamaaGreatDoor
open Go.RowKit Go.Sort
theorem RdL.empty {α : Type} {sz : Nat} {E E' : α → List Value → Prop} {w w' : World} {ok ok' : Blk} {v : Value} (h : RdL sz E w ok v []) : RdL sz E' w' ok' v [] := by
  obtain ⟨A, c, hv, hc, hl, _⟩ := h
  exact ⟨A, c, hv, hc, hl, fun h => absurd rfl h⟩
theorem OwnL.same {α : Type} {sz : Nat} {E : α → List Value → Prop} {e : TypeId} {w w' : World} {base : Nat} {v : Value} {xs : List α} (h : OwnL sz E e w base v xs) (hb : ∀ k o, w.heap[k]? = some o → base ≤ k → w'.heap[k]? = some o) : OwnL sz E e w' base v xs := by
  obtain ⟨cs, ho, hr, h1, hl⟩ := h
  refine ⟨cs, ⟨ho.1, ?_⟩, hr, h1, hl⟩
  rcases ho.2 with h | ⟨g, cap, cur, hv, hg, hh, h⟩
  · exact .inl h
  · exact .inr ⟨g, cap, cur, hv, hg, hb _ _ hh hg, h⟩
/-- What was written is none of the spine's. -/
theorem SpAt.wrote {base b : Nat} {w w' : World} {S : GS} {P : Nat → Prop} (h : SpAt base b w S) (hw : Wrote P w w') (hP : ∀ k, k < w.heap.size → P k → k < base ∧ k ≠ b) : SpAt base b w' S := by
  obtain ⟨u, bv, h1, h2, h3⟩ := h
  have hb : ∀ k o, w.heap[k]? = some o → base ≤ k ∨ k = b → w'.heap[k]? = some o := fun k o hh hk => by
    have hlt := (Array.getElem?_eq_some_iff.1 hh).1
    exact (hw.block k hlt fun hp => by have := hP k hlt hp; omega).trans hh
  have hs : ∀ ts, Stays w w' (Fresh base ts) (Fresh base ts) := fun ts k t cells fr ho hh => ⟨ho, hb k _ hh (.inl ho.1.1)⟩
  exact ⟨u, bv, hb b _ h1 (.inr rfl), h2.mv (hs _), (h3.same fun k o hh hk => hb k o hh (.inl hk)).imp fun _ _ e => e.mv (hs _)⟩
theorem Stays.lt (w : World) (ok : Blk) : Stays w w ok fun k t => ok k t ∧ k < w.heap.size := fun k t cells fr ho hh =>
  ⟨⟨⟨ho.1, (Array.getElem?_eq_some_iff.1 hh).1⟩, ho.2.imp id fun h => ⟨h, (Array.getElem?_eq_some_iff.1 hh).1⟩⟩, hh⟩
/-- A new multiset, whose blocks lie in [lo, hi), as spoil takes it. -/
theorem RdZ2.spoils {w : World} {lo : Nat} {v : Value} {z : List GE} (h : RdZ2 w lo v z) :
    RdL 2 (ES w fun k t => Fresh lo [55] k t ∧ k < w.heap.size) w (fun k t => Fresh lo [47] k t ∧ k < w.heap.size) v z :=
  RdL.move h (fun _ _ e => (e.mv (Stays.lt w _)).es) (Stays.lt w _)
theorem spoilE {lo hi : Nat} : ∀ k t, (Fresh lo [47] k t ∧ k < hi) → t = 47 ∧ (lo ≤ k ∧ k < hi) := fun k t h => ⟨by have := h.1.2; simpa using this, h.1.1, h.2⟩
theorem spoilV {lo hi : Nat} : ∀ k t, (Fresh lo [55] k t ∧ k < hi) → t = 55 ∧ (lo ≤ k ∧ k < hi) := fun k t h => ⟨by have := h.1.2; simpa using this, h.1.1, h.2⟩
theorem pick_nil {r : List GV} (h : rsound r = true) : pick r [] = some [] := by unfold pick; rw [if_pos ⟨h, by simp⟩]; rfl
theorem putE_new {z : List GE} (h : zsound z = true) : putE [] [] z = 0 := by
  obtain ⟨h1, _⟩ := zsound_parts h
  unfold putE
  rw [if_neg, if_neg]
  · rw [List.any_eq_true]
    rintro ⟨x, _, hx⟩
    rw [zw_nil, over0] at hx
    cases hx
  · rintro (h2 | h2)
    · rw [h] at h2; cases h2
    · obtain ⟨x, hx, hp⟩ := List.any_eq_true.1 h2
      rw [pick_nil (h1 x hx).2.2] at hp
      cases hp
/-- The first change of a spine without columns: it tells just that. -/
theorem put_first {base b : Nat} {z : List GE} {w w' : World} {e : Ending} (hz : zsound z = true) (ho : ∀ x ∈ z, ∀ v ∈ x.row, v.Ok) (h : PutPost base b ⟨[], [], 0⟩ z w e w') :
    Mut base b w w' ∧ e = .returned (.int .i64 0) ∧ ∃ S, SpAt base b w' S ∧ Inv S ∧ S.cols = [] ∧ heldL S.bs ≤ z.length ∧ Told S z := by
  obtain ⟨hm, he, S, h1, h2, h3, h4, _, z', h5, _, _, h6⟩ := told_put (Inv.new []) (told_new []) (fun x hx => by cases hx) ho h
  simp only at he h6
  rw [putE_new hz] at he h6
  refine ⟨hm, he, S, h1, h2, h3, by simpa [heldL] using h4, ?_⟩
  rw [← zext h5.ok (zsound_ok hz ho).1 fun r hr => by rw [h6 rfl r hr, zw_nil, Int.zero_add]]
  exact h5
theorem get_whole {S : GS} {z xs : List GE} (hi : Inv S) (hc : S.cols = []) (ht : Told S z) (hp : xs.Perm ((getL S.bs (encB [])).map GI.ent)) (hs : xs.Pairwise fun x y => ¬ rlex y.row x.row < 0) : xs = z := by
  rw [told_get hi ht ⟨by decide, by simp⟩ hp hs, List.filter_eq_self]
  intro x hx
  unfold keyIs
  rw [hc, pick_nil (ht.ok.row x hx).1]
  exact (sameR_eq _ _).2 rfl
set_option maxHeartbeats 8000000 in
set_option maxRecDepth 100000 in
theorem lawMemory_any (v : Value) (z : List GE) (w : World) (hw : GW w) (hz : RdZ w AnyB v z) :
    Calls Tryz.prog 6 #[v] w fun e w' => e = .returned (.bool true) ∧ Below w.heap.size w w' := by
  have h0 := awake_any w hw
  have hS := fun W (hE : Below w.heap.size w W) => zSound_any v z W (hz.ext hE)
  have hvals := hz.vals
  obtain ⟨A, c, rfl, hac⟩ := hz.shape
  have hal := hz.len
  have HW := As.mk hw
  have HZ := As.mk hz
  have HVA := As.mk hvals
  clear hz hw hvals
  go_enter Tryz.func6, Tryz.ntmps6
  go_wp2_with fail
  refine h0.mono ?_
  rintro e w1 ⟨rfl, hB1⟩
  have HB1 := As.mk hB1
  clear h0
  go_wp2_with (first | (go_at_call 13; refine (compact_nil _).mono ?_; rintro e w' ⟨rfl, rfl⟩) | (go_at_call 11; refine (put_nil _ _).mono ?_; rintro e w' ⟨rfl, rfl⟩) | (go_at_call 14; refine (spLen_nil _).mono ?_; rintro e w' ⟨rfl, rfl⟩) | (go_at_call 23; refine (spHeld_nil _).mono ?_; rintro e w' ⟨rfl, rfl⟩) | (go_at_call 24; refine (spBatches_nil _).mono ?_; rintro e w' ⟨rfl, rfl⟩) | (go_at_call 16; refine (spWeight_nil _ _).mono ?_; rintro e w' ⟨rfl, rfl⟩) | (go_at_call 21; refine (all_nil _).mono ?_; rintro e w' ⟨rfl, rfl⟩))
  refine (get_nil _ [] _ (HW.out.below HB1.out) (RdL.nil _ _ _ _)).mono ?_
  rintro e w2 ⟨rfl, hB2⟩
  have HB2 := As.mk (HB1.out.trans (hB2.mono HB1.out.size))
  clear hB2
  by_cases hbig : 100 < z.length
  · have hbz : (100 : Int) < (z.length : Int) := by omega
    go_wp2_with fail
    go_ret
    exact ⟨rfl, HB2.out⟩
  have hbz : ¬ (100 : Int) < (z.length : Int) := by omega
  have hS2 := hS w2 HB2.out
  cases hsz : zsound z with
  | false =>
    rw [hsz] at hS2
    clear hS hsz
    go_wp2_with (go_at_call 25; refine hS2.mono ?_; rintro e w3 ⟨rfl, hE⟩)
    go_ret
    exact ⟨rfl, HB2.out.trans (hE.below.mono HB2.out.size)⟩
  | true =>
    rw [hsz] at hS2
    have HSZ := As.mk hsz
    clear hS hsz
    have hN := fun W => spNew_good (.slice none 0 0) [] W (RdL.nil _ _ _ _) rfl
    go_wp2_with (first | (go_at_call 25; refine hS2.mono ?_; rintro e w3 ⟨rfl, hE⟩; have HB3 := As.mk (HB2.out.trans (hE.below.mono HB2.out.size)); clear hE) | (go_at_call 9; refine (hN _).mono ?_; rintro e w4 ⟨b, rfl, hN4, hB4⟩; have HB4 := As.mk (HB3.out.trans (hB4.mono HB3.out.size)); have HN := As.mk hN4; have HBB := As.mk (Nat.le_trans HB3.out.size hN4.1); clear hN4 hB4 hN))
    have hlo0 : w.heap.size ≤ w4.heap.size := HB4.out.size
    have hblt : b < w4.heap.size := by
      obtain ⟨_, u, h1, _⟩ := HN.out
      exact (Array.getElem?_eq_some_iff.1 h1).1
    have HBLT := As.mk hblt
    clear hblt
    go_loopg [6, 7, 8] z.length (fun g s6 s7 _ wr => ∃ (k : Nat), k ≤ z.length ∧ z.length - k ≤ g ∧ s7 = .int .i64 k ∧ As (OwnL 2 (EE wr (Fresh w4.heap.size [55])) 47 wr w4.heap.size s6 (z.take k)) ∧ As (Below w4.heap.size w4 wr))
    case atStart =>
      refine ⟨0, by omega, by omega, by go_num, ⟨?_⟩, ⟨(Below.refl _ _).alloc (Nat.le_refl _) _⟩⟩
      exact OwnL.made 2 _ 47 w4 w4.heap.size #[] 0 (Nat.le_refl _) (by decide) rfl
    case round =>
      obtain ⟨k, hk, hg, rfl, HO, HBW⟩ := hrel
      by_cases hlt : k < z.length
      · have hltz : (k : Int) < (z.length : Int) := by omega
        obtain ⟨x, hx⟩ : ∃ x, z[k]? = some x := ⟨_, List.getElem?_eq_getElem hlt⟩
        obtain ⟨ba, oa, ca, Ad, dd, hv, hba, hxw, hd0, e0w, e1w⟩ := HZ.out.ent hx
        have hBw := HB4.out.trans (HBW.out.mono HB4.out.size)
        have hd := hd0.ext hBw
        have e0 := (hBw.cell (p := ⟨ba, oa + k * 2, none⟩) hba).trans e0w
        have e1 := (hBw.cell (p := ⟨ba, oa + k * 2 + 1, none⟩) hba).trans e1w
        injection hv with hA' _ hccc
        subst hA' hccc
        have HD := As.mk hd
        have HST : As (z.take (k + 1) = z.take k ++ [x]) := ⟨by rw [List.take_add_one, hx]; rfl⟩
        have HXI := As.mk hxw
        have hzl : (z.take k).length = k := by rw [List.length_take]; omega
        have hdl := hd0.len
        have HZL := As.mk hzl
        clear hd hd0 hx hBw hxw e0w e1w hzl
        obtain ⟨xr, xw⟩ := x
        simp only at *
        have hbaw : ba < wr.heap.size := Nat.lt_of_lt_of_le hba (Nat.le_trans HB4.out.size HBW.out.size)
        have hX0 : Below wr.heap.size wr (wr.alloc (.cells #[] 55)) := (Below.refl _ _).alloc (Nat.le_refl _) _
        have e0a := Ext.cell (Ext.alloc (Ext.refl wr) (.cells #[] 55)) e0
        have HD1 := As.mk (HD.out.ext hX0)
        have HR0 := As.mk (OwnL.made 4 EV 55 wr wr.heap.size #[] 0 (Nat.le_refl _) (by decide) rfl)
        have HX0 := As.mk hX0
        clear hX0
        have HLZ : As ((z.take k).length < 4294967296) := ⟨by have := HZL.out; omega⟩
        go_wp2_with (first | (at_builtin; refine OwnL.appends wr.heap.size rfl _ _ 25 55 _ 4 40 rfl Tryz.underlying25 info_val rfl (by decide) (by decide) _ [] xr _ _ _ rfl rfl HD1.out HR0.out HX0.out (by simp) (by simpa using hdl) ?_; intro v1 w5 hown hb hg5 hat; obtain ⟨A5, c5, rfl, _⟩ := hown.shape; have e1a := (hb.cell (p := ⟨ba, oa + k * 2 + 1, none⟩) hbaw).trans e1; have HU5 := As.mk (hown.rd (ok := Fresh w4.heap.size [55]) (fun k hk => ⟨Nat.le_trans HBW.out.size hk, by simp⟩)); have HB5 := As.mk hb; have HO6 := As.mk ((HO.out.below hb).imp fun _ _ h => EE.mv h (Stays.below hb _)); have HB6 := As.mk (HBW.out.trans (hb.mono HBW.out.size)); have hbz := HB6.out.size; clear hb hown hg5 hat) | (at_builtin; refine OwnL.append (W := w5) w4.heap.size rfl (.tmp 80) (.tmp 88) 35 47 _ 2 32 rfl Tryz.underlying35 info_entry rfl (by decide) (by decide) u6 (z.take k) ⟨xr, xw⟩ [.slice A5 xr.length c5, .int .i64 xw] rfl rfl (E := EE w5 (Fresh w4.heap.size [55])) ⟨_, rfl, HXI.out, HU5.out⟩ rfl (by simp [Value.oneCell']) HO6.out HB6.out hbz HLZ.out rfl ?_; intro v2 w6 hown hb' hg' hat; have HO7 := As.mk (hown.imp fun _ _ h => EE.mv h (HO6.out.rowStays hg' (ok := Fresh w4.heap.size [55]) (fun k h => by have := h.2; simp at this))); have HB7 := As.mk hb'; clear hown hb' hg' hat))
        go_roundg (z.length - (k + 1))
        case measure => omega
        case rel => exact ⟨k + 1, by omega, by omega, by go_num, ⟨by rw [HST.out]; exact HO7.out⟩, HB7⟩
      · have hltz : ¬ (k : Int) < (z.length : Int) := by omega
        obtain rfl : k = z.length := by omega
        rw [List.take_length] at HO
        have hBw := HB4.out.trans (HBW.out.mono HB4.out.size)
        have hmine : RdZ2 wr w4.heap.size u6 z := HO.out.rd fun k hk => ⟨hk, by simp⟩
        have hms := hmine.spoils
        obtain ⟨ub, hub, hubr⟩ := HN.out.2
        have hbh := (HBW.out.block b HBLT.out).trans hub
        have hsp : SpAt wr.heap.size b wr ⟨[], [], 0⟩ := ⟨ub, _, hbh, hubr.empty, OwnL.nil _ _ _ _ _⟩
        have hput := put_any wr.heap.size b ⟨[], [], 0⟩ u6 z wr (HW.out.below hBw) hmine.any (Nat.le_refl _) hsp (by simp) (by simp [heldL]; omega) (by simp) (by simp)
        have hwm : w4.heap.size ≤ wr.heap.size := HBW.out.size
        have HMB := As.mk hmine.both
        have HMS := As.mk hms
        have HBH := As.mk hbh
        have HBW0 := As.mk hBw
        clear hBw hmine hms hub hubr hbh hsp HO
        obtain ⟨Am, cm, rfl, _⟩ := HMB.out.shape
        go_wp2_with fail
        refine hput.mono ?_
        rintro e w5 hpost
        obtain ⟨hM, rfl, S, hS, hI, hC, hH, hT⟩ := put_first HSZ.out HVA.out hpost
        have HM := As.mk hM
        have HS := As.mk hS
        have HI := As.mk hI
        have HT := As.mk hT
        have HC := As.mk hC
        have HH : As (heldL S.bs ≤ 4294967296) := ⟨by omega⟩
        have HB5 : As (Below w.heap.size w w5) := ⟨HBW0.out.trans (hM.below HBW0.out.size HBB.out HBW0.out.size)⟩
        have HM5 : As (RdZ w5 AnyB (.slice Am z.length cm) z) := ⟨HMB.out.mv (hM.stays HBH.out fun k t h => ⟨fun e => by have := h.2; rw [e] at this; simp at this, fun e => by have := h.2; rw [e] at this; simp at this, trivial⟩)⟩
        have hok : ∀ (lo hi : Nat) (T : TypeId), T ≠ 69 → T ≠ 70 → ∀ k t, (Fresh lo [T] k t ∧ k < hi) → t ≠ 69 ∧ t ≠ 70 ∧ (Fresh lo [T] k t ∧ k < hi) := fun lo hi T h1 h2 k t h => by
          have e : t = T := by have := h.1.2; simpa using this
          exact ⟨e ▸ h1, e ▸ h2, h⟩
        have HMS5 := As.mk (RdL.move HMS.out (fun _ _ e => ES.mv e (hM.stays HBH.out (hok w4.heap.size wr.heap.size 55 (by decide) (by decide)))) (hM.stays HBH.out (hok w4.heap.size wr.heap.size 47 (by decide) (by decide))))
        have hsize5 := hM.size
        have HSM := As.mk (same3_any _ _ z z w5 HM5.out (HZ.out.ext HB5.out))
        rw [(sameZ_eq z z).2 rfl] at HSM
        clear hM hpost hS hI hT hC hok hH hput
        go_wp2_with fail
        refine HSM.out.mono ?_
        rintro e w6 ⟨rfl, m6, hw6⟩
        have hB6 : Below w5.heap.size w5 w6 := hw6 ▸ (Ext.drewN (Ext.refl _) _).below
        have HB6 := As.mk hB6
        have HS6 := As.mk (HS.out.ext hB6)
        have hsize6 := hB6.size
        have HBX6 := As.mk (HB5.out.trans (hB6.mono HB5.out.size))
        have hall := all_any wr.heap.size b S w6 HS6.out HH.out HI.out.sound
        clear hw6 hB6
        go_wp2_with fail
        refine hall.mono ?_
        rintro e w7 ⟨v7, rfl, hB7, xs, hp, hso, hrd⟩
        rw [told_all HI.out HT.out hp hso] at hrd
        have hsize7 := hB7.size
        have HB7 := As.mk hB7
        have HA := As.mk hrd.spoils
        obtain ⟨A7, c7, rfl, _⟩ := hrd.shape
        have hget := get_any wr.heap.size b S (.slice none 0 0) [] w7 (HW.out.below (HBX6.out.trans (hB7.mono HBX6.out.size))) (RdL.nil _ _ _ _) (by decide) (HS6.out.ext hB7) (fun z hz => (HI.out.fine z hz).1) HH.out HI.out.sound
        clear hp hso hrd hB7 hall
        go_wp2_with fail
        refine hget.mono ?_
        rintro e w8 ⟨v8, rfl, hB8, xs, hp, hso, hrd⟩
        rw [get_whole HI.out HC.out HT.out hp hso] at hrd
        have hsize8 := hB8.size
        have HB8 := As.mk hB8
        have HG := As.mk hrd.spoils
        obtain ⟨A8, c8, rfl, _⟩ := hrd.shape
        clear hp hso hrd hB8 hget
        have hB58 : Below w5.heap.size w5 w8 := (HB6.out.trans (HB7.out.mono hsize6)).trans (HB8.out.mono (Nat.le_trans hsize6 hsize7))
        have hm8 := RdL.move HMS5.out (fun _ _ e => ES.mv e (Stays.below hB58 _)) (Stays.below hB58 _)
        have h1 := spoil_any (fun k => w4.heap.size ≤ k ∧ k < wr.heap.size) _ _ _ z w8 hm8 spoilE spoilV
        have ha8 := RdL.move HA.out (fun _ _ e => ES.mv e (Stays.below HB8.out _)) (Stays.below HB8.out _)
        clear hm8 hB58
        go_wp2_with fail
        refine h1.mono ?_
        rintro e w9 ⟨rfl, hW9⟩
        have n1 : ∀ (T : TypeId) (lo hi : Nat), wr.heap.size ≤ lo → ∀ k t, (w4.heap.size ≤ k ∧ k < wr.heap.size) → ¬ (Fresh lo [T] k t ∧ k < hi) := fun T lo hi h k t h1 h2 => by have := h2.1.1; omega
        have ha9 := RdL.move ha8 (fun _ _ e => ES.mv e (hW9.stays (n1 55 w6.heap.size w7.heap.size (by omega)))) (hW9.stays (n1 47 w6.heap.size w7.heap.size (by omega)))
        have hg9 := RdL.move HG.out (fun _ _ e => ES.mv e (hW9.stays (n1 55 w7.heap.size w8.heap.size (by omega)))) (hW9.stays (n1 47 w7.heap.size w8.heap.size (by omega)))
        have h2 := spoil_any (fun k => w6.heap.size ≤ k ∧ k < w7.heap.size) _ _ _ z w9 ha9 spoilE spoilV
        clear h1 ha8 ha9 n1
        have HW9 := As.mk hW9
        clear hW9
        go_wp2_with fail
        refine h2.mono ?_
        rintro e w10 ⟨rfl, hW10⟩
        have n2 : ∀ (T : TypeId) (lo hi : Nat), w7.heap.size ≤ lo → ∀ k t, (w6.heap.size ≤ k ∧ k < w7.heap.size) → ¬ (Fresh lo [T] k t ∧ k < hi) := fun T lo hi h k t h1 h2 => by have := h2.1.1; omega
        have hg10 := RdL.move hg9 (fun _ _ e => ES.mv e (hW10.stays (n2 55 w7.heap.size w8.heap.size (by omega)))) (hW10.stays (n2 47 w7.heap.size w8.heap.size (by omega)))
        have h3 := spoil_any (fun k => w7.heap.size ≤ k ∧ k < w8.heap.size) _ _ _ z w10 hg10 spoilE spoilV
        have HW10 := As.mk hW10
        clear h2 hg9 hg10 n2 hW10
        go_wp2_with fail
        refine h3.mono ?_
        rintro e w11 ⟨rfl, hW11⟩
        have HF : As (Wrote (fun k => (w4.heap.size ≤ k ∧ k < wr.heap.size) ∨ w6.heap.size ≤ k) w6 w11) := ⟨(((Wrote.of (HB7.out.trans (HB8.out.mono hsize7))).trans (HW9.out.mono fun k h => .inl h)).trans (HW10.out.mono fun k h => .inr h.1)).trans (hW11.mono fun k h => .inr (by omega))⟩
        have HS11 := As.mk (HS6.out.wrote HF.out fun k hk hq => by have := HBLT.out; omega)
        have HB11 := As.mk (HBX6.out.trans (HF.out.below (B := w.heap.size) (fun k hq => by omega) HBX6.out.size))
        have hall := all_any wr.heap.size b S w11 HS11.out HH.out HI.out.sound
        clear h3 hW11
        go_wp2_with fail
        refine hall.mono ?_
        rintro e w12 ⟨v12, rfl, hB12, xs, hp, hso, hrd⟩
        rw [told_all HI.out HT.out hp hso] at hrd
        have HB12 := As.mk hB12
        have HX12 := As.mk (HB11.out.trans (hB12.mono HB11.out.size))
        obtain ⟨A12, c12, rfl, _⟩ := hrd.shape
        have HSM2 := As.mk (same3_any _ _ z z w12 hrd.any (HZ.out.ext HX12.out))
        rw [(sameZ_eq z z).2 rfl] at HSM2
        clear hp hso hrd hB12 hall
        go_wp2_with fail
        refine HSM2.out.mono ?_
        rintro e w13 ⟨rfl, m13, hw13⟩
        have hB13 : Below w12.heap.size w12 w13 := hw13 ▸ (Ext.drewN (Ext.refl _) _).below
        have HX13 := As.mk (HX12.out.trans (hB13.mono HX12.out.size))
        have hget := get_any wr.heap.size b S (.slice none 0 0) [] w13 (HW.out.below HX13.out) (RdL.nil _ _ _ _) (by decide) ((HS11.out.ext HB12.out).ext hB13) (fun z hz => (HI.out.fine z hz).1) HH.out HI.out.sound
        clear hw13 hB13
        go_wp2_with fail
        refine hget.mono ?_
        rintro e w14 ⟨v14, rfl, hB14, xs, hp, hso, hrd⟩
        rw [get_whole HI.out HC.out HT.out hp hso] at hrd
        have HX14 := As.mk (HX13.out.trans (hB14.mono HX13.out.size))
        obtain ⟨A14, c14, rfl, _⟩ := hrd.shape
        have HSM3 := As.mk (same3_any _ _ z z w14 hrd.any (HZ.out.ext HX14.out))
        rw [(sameZ_eq z z).2 rfl] at HSM3
        clear hp hso hrd hB14 hget
        go_wp2_with fail
        refine HSM3.out.mono ?_
        rintro e w15 ⟨rfl, m15, hw15⟩
        have HX15 := As.mk (HX14.out.trans ((show Below w14.heap.size w14 w15 from hw15 ▸ (Ext.drewN (Ext.refl _) _).below).mono HX14.out.size))
        clear hw15
        go_wp2_with fail
        go_ret
        exact ⟨rfl, HX15.out⟩
end Go.Proofs.YtmpndmjfdijamaaGreatDoor
