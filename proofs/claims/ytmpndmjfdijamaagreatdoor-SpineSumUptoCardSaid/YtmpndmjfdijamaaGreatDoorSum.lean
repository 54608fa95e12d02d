/- The walk of the law SpineSum. -/
import Derived.Test.YtmpndmjfdijamaaGreatDoorDelta
import Derived.Test.YtmpndmjfdijamaaGreatDoorAwake2
import Derived.Test.YtmpndmjfdijamaaGreatDoorZadd
set_option linter.unusedVariables false
set_option linter.unusedSimpArgs false
namespace Go.Proofs.YtmpndmjfdijamaaGreatDoor
open Go.RowKit Go.Sort
/-! ### The plain law -/
theorem zsound0_of : ∀ {z : List GE} {p : Option GE}, ZOk z → FairZ z → (∀ y, p = some y → rsound y.row = true ∧ ∀ x ∈ z, rlex y.row x.row < 0) → zsound0 p z = true
  | [], _, _, _, _ => rfl
  | x :: z, p, h, hf, hp => by
    have hx := h.row x (by simp)
    have h2 := zsound0_of (z := z) (p := some x) h.tail (fun y hy => hf y (by simp [hy])) fun y hy => by
      rw [← Option.some.inj hy]
      exact ⟨hx.1, fun u hu => (List.pairwise_cons.1 h.rise).1 u hu⟩
    rw [zsound0, h2, Bool.and_true]
    unfold entOk
    rw [hf x (by simp), hx.1, beq_eq_false_iff_ne.2 (h.w x (by simp))]
    cases p with
    | none => rfl
    | some y =>
      obtain ⟨p1, p2⟩ := hp y rfl
      have := p2 x (by simp)
      simp only [rcmp_lex p1 hx.1]
      simpa using this
theorem zok_sound {z : List GE} (h : ZOk z) (hf : FairZ z) : zsound z = true := zsound0_of h hf fun _ h => by cases h
theorem putE_zero {cols : List Int} {z d : List GE} : putE cols z d = 0 ↔ zsound d = true ∧ (∀ x ∈ d, ∃ k, pick x.row cols = some k) ∧ ∀ x ∈ d, overW (zw z x.row) x.w = false := by
  unfold putE
  constructor
  · intro h
    split at h
    · cases h
    · next h1 =>
      split at h
      · cases h
      · next h2 =>
        refine ⟨?_, fun x hx => ?_, fun x hx => ?_⟩
        · cases hs : zsound d
          · exact absurd (.inl hs) h1
          · rfl
        · cases hk : pick x.row cols with
          | none => exact absurd (.inr (List.any_eq_true.2 ⟨x, hx, by rw [hk]; rfl⟩)) h1
          | some k => exact ⟨k, rfl⟩
        · have := List.any_eq_false.1 (by simpa using h2) x hx
          simpa using this
  · rintro ⟨h1, h2, h3⟩
    rw [if_neg, if_neg]
    · rw [List.any_eq_true]
      rintro ⟨x, hx, h⟩
      rw [h3 x hx] at h; cases h
    · rintro (h | h)
      · rw [h1] at h; cases h
      · obtain ⟨x, hx, h⟩ := List.any_eq_true.1 h
        obtain ⟨k, hk⟩ := h2 x hx
        rw [hk] at h; cases h
theorem neg_ok {d : List GE} (h : ZOk d) (hf : FairZ d) : ZOk (d.map GE.neg) ∧ FairZ (d.map GE.neg) := by
  refine ⟨⟨fun x hx => ?_, fun x hx => ?_, ?_⟩, fun x hx => ?_⟩
  · obtain ⟨y, hy, rfl⟩ := List.mem_map.1 hx
    exact h.row y hy
  · obtain ⟨y, hy, rfl⟩ := List.mem_map.1 hx
    have := h.w y hy
    show -y.w ≠ 0
    omega
  · exact List.pairwise_map.2 h.rise
  · obtain ⟨y, hy, rfl⟩ := List.mem_map.1 hx
    have := hf y hy
    show fair (-y.w) = true
    unfold fair at *
    simp only [Bool.and_eq_true, decide_eq_true_eq] at *
    omega
theorem zw_neg (d : List GE) (r : List GV) : zw (d.map GE.neg) r = -zw d r := by
  induction d with
  | nil => rfl
  | cons x d ih =>
    rw [List.map_cons, zw_cons, zw_cons, ih]
    show (if sameR x.row r = true then -x.w else 0) + _ = _
    split <;> omega
/-- The sum's answer is what the spine tells. -/
theorem sum_made {cols : List Int} {z d z1 z2 : List GE} (hz : ZOk z) (hd : ZOk d) (h1 : ZOk z1) (hf1 : FairZ z1) (hs : ZSum z d z1) : overL (z ++ d) = false ∧ (Made (z ++ d) z2 → z2 = z1) := by
  refine ⟨?_, fun hm => zext hm.ok h1 fun r hr => by rw [hm.sum, hs r hr, zw_app]⟩
  unfold overL
  rw [List.any_eq_false]
  intro x hx
  have hr : RowOk x.row := by
    rcases List.mem_append.1 hx with hx | hx
    · exact hz.row x hx
    · exact hd.row x hx
  rw [zw_app, ← hs x.row hr, hf1.at h1 x.row]
  simp
/-- Behind a change its negative may be put: and the spine is as it was. -/
theorem undo_ok {cols : List Int} {z d z1 : List GE} (hz : ZOk z) (hf : FairZ z) (h0 : putE cols z d = 0) (hd : ZOk d) (hfd : FairZ d) (h1 : ZOk z1) (hs : ZSum z d z1) : putE cols z1 (d.map GE.neg) = 0 ∧ ∀ z2, ZOk z2 → ZSum z1 (d.map GE.neg) z2 → z2 = z := by
  obtain ⟨n1, n2⟩ := neg_ok hd hfd
  obtain ⟨_, p2, _⟩ := putE_zero.1 h0
  refine ⟨putE_zero.2 ⟨zok_sound n1 n2, fun x hx => ?_, fun x hx => ?_⟩, fun z2 h2 hs2 => zext h2 hz fun r hr => by rw [hs2 r hr, hs r hr, zw_neg]; omega⟩
  · obtain ⟨y, hy, rfl⟩ := List.mem_map.1 hx
    exact p2 y hy
  · obtain ⟨y, hy, rfl⟩ := List.mem_map.1 hx
    refine fair_over ?_
    show fair (zw z1 y.row + -y.w) = true
    rw [hs y.row (hd.row y hy), hd.at hy]
    have := hf.at hz y.row
    rwa [show zw z y.row + y.w + -y.w = zw z y.row by omega]
theorem put_whole {S : GS} {z : List GE} (ht : Told S z) (hf : FairZ z) : putE S.cols [] z = 0 := putE_zero.2 ⟨zok_sound ht.ok hf, ht.key, fun x _ => by rw [zw_nil]; exact over0 _⟩
/-! ### Two spines side by side -/
theorem NewAt.spAny {base b : Nat} {w : World} {r : List Int} (h : NewAt base w b r) (base2 : Nat) : SpAt base2 b w ⟨r, [], 0⟩ :=
  let ⟨_, u, h1, h2⟩ := h; ⟨u, _, h1, h2.mv (Stays.mono fun _ _ h => ⟨Nat.zero_le _, h.2⟩), OwnL.nil _ _ _ _ _⟩
theorem NewAt.ext {base b : Nat} {w w' : World} {r : List Int} (h : NewAt base w b r) (hb : Below w.heap.size w w') : NewAt base w' b r :=
  let ⟨h0, u, h1, h2⟩ := h; ⟨h0, u, (hb.block b (Array.getElem?_eq_some_iff.1 h1).1).trans h1, h2.ext hb⟩
theorem NewAt.beside {base b base' b' : Nat} {w w' : World} {r : List Int} (h : NewAt base' w b' r) (hm : Mut base b w w') {cs : Array Value} {fr : Nat × Nat} (hb : w.heap[b]? = some (.cells cs 69 fr)) (hne : b' ≠ b) : NewAt base' w' b' r := by
  obtain ⟨h0, u, h1, h2⟩ := h
  refine ⟨h0, u, hm.block b' _ h1 hne (.inr fun c fz e => ?_), h2.mv (hm.stays hb fresh_cols)⟩
  injection e with _ h4 _
  exact absurd h4 (by decide)
theorem OwnL.sameT {α : Type} {sz : Nat} {E : α → List Value → Prop} {e : TypeId} {w w' : World} {base : Nat} {v : Value} {xs : List α} (h : OwnL sz E e w base v xs) (hb : ∀ (k : Nat) (c : Array Value), w.heap[k]? = some (Obj.cells c e (0, 0)) → w'.heap[k]? = some (Obj.cells c e (0, 0))) : OwnL sz E e w' base v xs := by
  obtain ⟨cs, ho, hr, h1, hl⟩ := h
  refine ⟨cs, ⟨ho.1, ?_⟩, hr, h1, hl⟩
  rcases ho.2 with h | ⟨g, cap, cur, hv, hg, hh, h⟩
  · exact .inl h
  · exact .inr ⟨g, cap, cur, hv, hg, hb _ _ hh, h⟩
/-- A change of another spine, which was made before. -/
theorem SpAt.other {base b base2 b2 : Nat} {w w' : World} {S : GS} (h : SpAt base b w S) (hm : Mut base2 b2 w w') (hle : w.heap.size ≤ base2) {cs : Array Value} {fr : Nat × Nat} (hb : w.heap[b2]? = some (.cells cs 69 fr)) (hne : b ≠ b2) : SpAt base b w' S := by
  obtain ⟨u, bv, h1, h2, h3⟩ := h
  refine ⟨u, bv, hm.block b _ h1 hne (.inl (Nat.lt_of_lt_of_le (Array.getElem?_eq_some_iff.1 h1).1 hle)), h2.mv (hm.stays hb fresh_cols), (h3.sameT fun k c hk => hm.block k _ hk ?_ (.inl (Nat.lt_of_lt_of_le (Array.getElem?_eq_some_iff.1 hk).1 hle))).imp fun _ _ e => e.mv (hm.stays hb fresh_own)⟩
  rintro rfl
  rw [hb] at hk
  injection hk with hk
  injection hk with _ h4 _
  exact absurd h4 (by decide)
theorem RdZ2.beside {base b lo : Nat} {w w' : World} {v : Value} {z : List GE} (h : RdZ2 w lo v z) (hm : Mut base b w w') {cs : Array Value} {fr : Nat × Nat} (hb : w.heap[b]? = some (.cells cs 69 fr)) : RdZ2 w' lo v z := by
  have hok : ∀ T : TypeId, T ≠ 69 → T ≠ 70 → ∀ k t, Fresh lo [T] k t → t ≠ 69 ∧ t ≠ 70 ∧ Fresh lo [T] k t := fun T h1 h2 k t h => by
    have e : t = T := by have := h.2; simpa using this
    exact ⟨e ▸ h1, e ▸ h2, h⟩
  exact RdL.move h (fun _ _ e => e.mv (hm.stays hb (hok _ (by decide) (by decide)))) (hm.stays hb (hok _ (by decide) (by decide)))
theorem SpAt.head {base b : Nat} {w : World} {S : GS} (h : SpAt base b w S) : ∃ cs, w.heap[b]? = some (.cells cs 69 (0, 0)) := let ⟨_, _, h1, _⟩ := h; ⟨_, h1⟩
theorem NewAt.head {base b : Nat} {w : World} {r : List Int} (h : NewAt base w b r) : ∃ cs, w.heap[b]? = some (.cells cs 69 (0, 0)) := let ⟨_, _, h1, _⟩ := h; ⟨_, h1⟩
theorem AddPost.good {a b z : List GE} {w w' : World} {e : Ending} (h : AddPost a b w e w') (ha : zsound a = true) (hb : zsound b = true) (ho : overL (a ++ b) = false) (hm : ∀ y, Made (a ++ b) y → y = z) : ∃ v, e = .returned (.tuple #[v, .int .i64 0]) ∧ RdZ2 w' w.heap.size v z ∧ Below w.heap.size w w' := by
  obtain ⟨hB, h⟩ := h
  rw [if_neg (by rw [ha, hb]; simp), if_neg (by rw [ho]; simp)] at h
  obtain ⟨v, y, h1, h2, h3, _⟩ := h
  rw [hm y h2] at h3
  exact ⟨v, h1, h3, hB⟩
theorem NegPost.get {a : List GE} {w w' : World} {e : Ending} (h : NegPost a w e w') (ha : zsound a = true) : ∃ v, e = .returned (.tuple #[v, .int .i64 0]) ∧ RdZ2 w' w.heap.size v (a.map GE.neg) ∧ Below w.heap.size w w' := by
  obtain ⟨hB, h⟩ := h
  rw [if_neg (by rw [ha]; simp)] at h
  obtain ⟨v, h1, h2⟩ := h
  exact ⟨v, h1, h2, hB⟩
/-- What one round leaves. -/
def RoundS (base b bt : Nat) (w wr : World) (cols : List Int) (sv : Value) (i : Nat) : Prop := ∃ S z, SpAt base b wr S ∧ Inv S ∧ Told S z ∧ FairZ z ∧ S.cols = cols ∧ heldL S.bs ≤ i * 300 ∧ S.live ≤ i * 300 ∧ NewAt 0 wr bt cols ∧ RdZ2 wr 0 sv z ∧ Below w.heap.size w wr
set_option maxHeartbeats 8000000 in
set_option maxRecDepth 100000 in
theorem lawSum_any (u v : Value) (cols : List Int) (ds : List (List GE)) (w : World) (hw : GW w) (hc : RdI w AnyB u cols) (ha : RdD w AnyB v ds) :
    Calls Tryz.prog 7 #[u, v] w fun e w' => e = .returned (.bool true) ∧ Below w.heap.size w w' := by
  have h0 := awake_any w hw
  obtain ⟨A, c, rfl, hac⟩ := ha.shape
  obtain ⟨Ac, cc, rfl, _⟩ := hc.shape
  have hal := ha.len
  have HW := As.mk hw
  have HAC := As.mk ha
  cases hco : colsOk cols with
  | false =>
    have h1 := fun W (hE : Below w.heap.size w W) => spNew_bad _ cols W (hc.ext hE) hco
    clear hc ha hw
    go_enter Tryz.func7, Tryz.ntmps7
    go_wp2_with fail
    refine h0.mono ?_
    rintro e w1 ⟨rfl, hB1⟩
    go_wp2_with fail
    refine (h1 _ hB1).mono ?_
    rintro e w2 ⟨rfl, hB2⟩
    have hB2' := hB1.trans (hB2.mono hB1.size)
    go_wp2_with fail
    refine (h1 _ hB2').mono ?_
    rintro e w3 ⟨rfl, hB3⟩
    have hB3' := hB2'.trans (hB3.mono hB2'.size)
    go_wp2_with fail
    go_ret
    exact ⟨rfl, hB3'⟩
  | true =>
    have h1 := fun W (hE : Below w.heap.size w W) => spNew_good _ cols W (hc.ext hE) hco
    clear hc ha hw
    go_enter Tryz.func7, Tryz.ntmps7
    go_wp2_with fail
    refine h0.mono ?_
    rintro e w1 ⟨rfl, hB1⟩
    have HB1 := As.mk hB1
    clear h0
    go_wp2_with fail
    refine (h1 _ hB1).mono ?_
    rintro e w2 ⟨b, rfl, hN, hB2⟩
    have HN := As.mk hN
    have HBB := As.mk hN.1
    have HB2 := As.mk (hB1.trans (hB2.mono hB1.size))
    clear hN hB2 hB1
    go_wp2_with fail
    refine (h1 _ HB2.out).mono ?_
    rintro e w3 ⟨bt, rfl, hN3, hB3⟩
    have HNT := As.mk hN3
    have HBT := As.mk (Nat.le_trans HB2.out.size hN3.1)
    have HNS := As.mk (HN.out.ext hB3)
    have hne : bt ≠ b := by
      obtain ⟨_, h⟩ := HN.out.head
      have := (Array.getElem?_eq_some_iff.1 h).1
      have := hN3.1
      omega
    have HNE := As.mk hne
    have HB3 := As.mk (HB2.out.trans (hB3.mono HB2.out.size))
    clear hN3 hB3 hne h1
    have HBW := As.mk HB1.out.size
    have hbase2 : w1.heap.size ≤ w3.heap.size := by
      obtain ⟨_, h⟩ := HNS.out.head
      have := (Array.getElem?_eq_some_iff.1 h).1
      have := HBB.out
      omega
    generalize w1.heap.size = base at *
    have HBX := As.mk (HB3.out.alloc HB3.out.size (.cells #[] 47))
    have hX : Below w3.heap.size w3 (w3.alloc (.cells #[] 47)) := (Below.refl _ _).alloc (Nat.le_refl _) _
    have HS0 := As.mk ((HNS.out.ext hX).spAny base)
    have HT0 : As (NewAt 0 (w3.alloc (.cells #[] 47)) bt cols) := ⟨let ⟨_, h⟩ := HNT.out.ext hX; ⟨Nat.zero_le _, by obtain ⟨u, h1, h2⟩ := h; exact ⟨u, h1, h2.mv (Stays.mono fun _ _ h => ⟨Nat.zero_le _, h.2⟩)⟩⟩⟩
    have HZ0 : As (RdZ2 (w3.alloc (.cells #[] 47)) 0 (.slice (some ⟨w3.heap.size, 0, none⟩) 0 0) []) := ⟨(OwnL.made 2 (EE (w3.alloc (.cells #[] 47)) (Fresh 0 [55])) 47 w3 w3.heap.size #[] 0 (Nat.le_refl _) (by simp [maxLen]) rfl).rd fun k hk => ⟨Nat.zero_le _, by simp⟩⟩
    clear hX
    go_wp2_with fail
    go_loopg [9, 10, 11, 12, 13] 100 (fun g s9 s10 _ _ _ wr => ∃ (i : Nat), i ≤ 100 ∧ 100 - i ≤ g ∧ s10 = .int .i64 i ∧ base ≤ wr.heap.size ∧ As (RoundS base b bt w wr cols s9 i))
    case atStart => exact ⟨0, by omega, by omega, by go_num, by simp; omega, ⟨⟨⟨cols, [], 0⟩, [], HS0.out, Inv.new cols, told_new _, fun x hx => (by cases hx), rfl, by simp [heldL], by simp, HT0.out, HZ0.out, HBX.out⟩⟩⟩
    case round =>
      obtain ⟨i, hi, hg, rfl, hbw, HR⟩ := hrel
      by_cases hlt : i < ds.length ∧ i < 100
      · obtain ⟨hlt1, hlt2⟩ := hlt
        have hltz : (i : Int) < (ds.length : Int) := by omega
        have hltz2 : (i : Int) < 100 := by omega
        obtain ⟨d, hx⟩ : ∃ x, ds[i]? = some x := ⟨_, List.getElem?_eq_getElem hlt1⟩
        obtain ⟨S, z, hS, hI, hT, hF, hcs, hH, hL, hNT, hZ, hBw⟩ := HR.out
        obtain ⟨ba, oa, ca, Ad, dd, hv, hba, hd0, e0w⟩ := HAC.out.delta hx
        have hd := hd0.ext hBw
        have e0 := (hBw.cell (p := ⟨ba, oa + i, none⟩) hba).trans e0w
        injection hv with hA' _ hccc
        subst hA' hccc
        by_cases hbig : 100 < d.length
        · have hbz : (100 : Int) < (d.length : Int) := by omega
          clear hS hI hd hx hT hF hNT hZ hd0 e0w
          go_wp2_with fail
          go_ret
          exact ⟨rfl, hBw⟩
        · have hbz : ¬ (100 : Int) < (d.length : Int) := by omega
          have hIl := hI.live
          have hIn := hI.fine.nums
          have HD0 := As.mk hd0
          have HBA := As.mk hba
          have HE0 := As.mk e0w
          have HPUT := As.mk (put_any base b S (.slice Ad d.length dd) d wr (HW.out.below hBw) hd hbw hS (fun z hz => (hI.fine z hz).1) (by omega) (by omega) (by omega))
          obtain ⟨Az, cz, rfl, _⟩ := hZ.shape
          have HSP := As.mk hS
          have HI := As.mk hI
          have HT := As.mk hT
          have HF := As.mk hF
          have HDV := As.mk hd.vals
          have HBW' := As.mk hBw
          have HCS := As.mk hcs
          have HHL := As.mk hH
          have HLL := As.mk hL
          have HNT2 := As.mk hNT
          have HZZ := As.mk hZ
          clear hS hI hd hx hIl hIn hBw hcs hT hF hH hL hNT hZ hd0 e0w
          go_wp2_with fail
          refine HPUT.out.mono ?_
          rintro e w4 hpost
          obtain ⟨hM, rfl, S2, hS2, hI2, hc2, hH2, hL2, z2, hT2, hF2, hpe1, hpe2⟩ := told_put HI.out HT.out HF.out HDV.out hpost
          obtain ⟨csS, hbS⟩ := HSP.out.head
          have hB4 : Below w.heap.size w w4 := HBW'.out.trans (hM.below (by have := HBW.out; omega) (by have := HBB.out; have := HBW.out; omega) HBW'.out.size)
          have HB4 := As.mk hB4
          have HNT4 := As.mk (HNT2.out.beside hM hbS HNE.out)
          have HZ4 := As.mk (HZZ.out.beside hM hbS)
          have hbw4 : base ≤ w4.heap.size := Nat.le_trans hbw hM.size
          have HPE := As.mk hpe2
          by_cases hpe : putE S.cols z d = 0
          · obtain ⟨p1, p2, p3⟩ := putE_zero.1 hpe
            obtain ⟨hdz, hdf⟩ := zsound_ok p1 HDV.out
            have hsum := hpe2 hpe
            obtain ⟨s1, s2⟩ := sum_made (cols := cols) (z2 := z2) HT.out.ok hdz hT2.ok hF2 hsum
            obtain ⟨u1, u2⟩ := undo_ok HT.out.ok HF.out hpe hdz hdf hT2.ok hsum
            have hzl : z.length ≤ 30000 := by
              have h1 := told_len HI.out HT.out
              have h2 := HLL.out
              omega
            have HADD := As.mk (add_any (.slice Az z.length cz) (.slice Ad d.length dd) z d w4 HZ4.out.any (HD0.out.ext HB4.out) (by omega))
            have HSNZ := As.mk (zok_sound HT.out.ok HF.out)
            have HSND := As.mk p1
            have HOV := As.mk s1
            have HMM : As (∀ y, Made (z ++ d) y → y = z2) := ⟨fun y hy => zext hy.ok hT2.ok fun r hr => by rw [hy.sum, hsum r hr, zw_app]⟩
            have HU1 := As.mk u1
            have HU2 := As.mk u2
            have HDZ := As.mk hdz
            have HSUM := As.mk hsum
            have HPE0 := As.mk hpe
            have HS2 := As.mk hS2
            have HI2 := As.mk hI2
            have HC2 := As.mk hc2
            have HH2 := As.mk hH2
            have HL2 := As.mk hL2
            have HT2 := As.mk hT2
            have HF2 := As.mk hF2
            have e0' := (HB4.out.cell (p := ⟨ba, oa + i, none⟩) HBA.out).trans HE0.out
            rw [hpe]
            clear hM hS2 hI2 hc2 hH2 hL2 hT2 hF2 hpost hpe1 hpe2 hB4 hpe p1 p2 p3 hdz hdf hsum s1 s2 u1 u2
            go_wp2_with fail
            refine HADD.out.mono ?_
            rintro e w5 hpost
            obtain ⟨v5, rfl, hr5, hB5⟩ := hpost.good HSNZ.out HSND.out HOV.out HMM.out
            have HB5 := As.mk (HB4.out.trans (hB5.mono HB4.out.size))
            have HR5 := As.mk hr5
            have HB45 := As.mk hB5
            obtain ⟨A5, c5, rfl, _⟩ := hr5.shape
            have e0'' := (HB5.out.cell (p := ⟨ba, oa + i, none⟩) HBA.out).trans HE0.out
            have HNEG := As.mk (neg_any (.slice Ad d.length dd) d w5 (HD0.out.ext HB5.out))
            clear hpost hr5 hB5 e0'
            go_wp2_with fail
            refine HNEG.out.mono ?_
            rintro e w6 hpost
            obtain ⟨v6, rfl, hr6, hB6⟩ := hpost.get HSND.out
            obtain ⟨nd, hnd⟩ : ∃ nd, nd = d.map GE.neg := ⟨_, rfl⟩
            have hnl : nd.length = d.length := by rw [hnd, List.length_map]
            rw [← hnd] at hr6 HU1 HU2
            have HB6 := As.mk (HB5.out.trans (hB6.mono HB5.out.size))
            have HB46 := As.mk (HB45.out.trans (hB6.mono HB45.out.size))
            have HR6 := As.mk (HR5.out.ext hB6)
            have HN6 := As.mk hr6
            obtain ⟨A6, c6, rfl, _⟩ := hr6.shape
            have hbw6 : base ≤ w6.heap.size := Nat.le_trans hbw4 HB46.out.size
            have hI2l := HI2.out.live
            have hI2n := HI2.out.fine.nums
            have hh2 := HH2.out
            have hl2 := HL2.out
            have hhl := HHL.out
            have hll := HLL.out
            have HS6 := As.mk (HS2.out.ext HB46.out)
            have HPUT2 := As.mk (put_any base b S2 (.slice A6 nd.length c6) nd w6 (HW.out.below HB6.out) HN6.out.any hbw6 HS6.out (fun z hz => (HI2.out.fine z hz).1) (by omega) (by omega) (by omega))
            have HNT6 := As.mk (HNT4.out.ext HB46.out)
            have HNV : As (∀ x ∈ nd, ∀ y ∈ x.row, y.Ok) := ⟨fun x hx => by
              rw [hnd] at hx
              obtain ⟨y, hy, rfl⟩ := List.mem_map.1 hx
              exact HDV.out y hy⟩
            have HNL := As.mk hnl
            clear hpost hr6 hB6 hI2l hI2n hnd hnl
            go_wp2_with fail
            refine HPUT2.out.mono ?_
            rintro e w7 hpost
            obtain ⟨hM, rfl, S3, hS3, hI3, hc3, hH3, hL3, z3, hT3, hF3, _, hp3⟩ := told_put HI2.out HT2.out HF2.out HNV.out hpost
            rw [HC2.out] at hp3 ⊢
            have hz3 := HU2.out z3 hT3.ok (hp3 HU1.out)
            rw [hz3] at hT3 hF3
            obtain ⟨cs6, hb6⟩ := HS6.out.head
            have HB7 : As (Below w.heap.size w w7) := ⟨HB6.out.trans (hM.below (by have := HBW.out; omega) (by have := HBB.out; have := HBW.out; omega) HB6.out.size)⟩
            have HNT7 := As.mk (HNT6.out.beside hM hb6 HNE.out)
            have HR7 := As.mk (HR6.out.beside hM hb6)
            have hbw7 : base ≤ w7.heap.size := Nat.le_trans hbw6 hM.size
            have e0' := (HB7.out.cell (p := ⟨ba, oa + i, none⟩) HBA.out).trans HE0.out
            have HS3 := As.mk hS3
            have HI3 := As.mk hI3
            have HC3 := As.mk hc3
            have HT3 := As.mk hT3
            have HF3 := As.mk hF3
            have hI3l := hI3.live
            have hI3n := hI3.fine.nums
            have hnl := HNL.out
            have HPUT3 := As.mk (put_any base b S3 (.slice Ad d.length dd) d w7 (HW.out.below HB7.out) (HD0.out.ext HB7.out) hbw7 hS3 (fun z hz => (hI3.fine z hz).1) (by omega) (by omega) (by omega))
            rw [HU1.out]
            have HH3 := As.mk hH3
            have HL3 := As.mk hL3
            clear hM hS3 hI3 hc3 hT3 hF3 hp3 hz3 hpost hI3l hI3n hnl
            go_wp2_with fail
            refine HPUT3.out.mono ?_
            rintro e w8 hpost
            obtain ⟨hM, rfl, S4, hS4, hI4, hc4, hH4, hL4, z4, hT4, hF4, _, hp4⟩ := told_put HI3.out HT3.out HF3.out HDV.out hpost
            rw [HC3.out, HC2.out, HPE0.out] at hp4 ⊢
            have hz4 : z4 = z2 := zext hT4.ok HT2.out.ok fun r hr => by rw [hp4 rfl r hr, HSUM.out r hr]
            rw [hz4] at hT4 hF4
            obtain ⟨cs7, hb7⟩ := HS3.out.head
            have HB8 : As (Below w.heap.size w w8) := ⟨HB7.out.trans (hM.below (by have := HBW.out; omega) (by have := HBB.out; have := HBW.out; omega) HB7.out.size)⟩
            have hh3 := HH3.out
            have hl3 := HL3.out
            have hnl := HNL.out
            have HFIN : As (RoundS base b bt w w8 cols (.slice A5 z2.length c5) (i + 1)) := ⟨S4, z2, hS4, hI4, hT4, hF4, hc4.trans (HC3.out.trans (HC2.out.trans HCS.out)), by omega, by omega, HNT7.out.beside hM hb7 HNE.out, (HR7.out.beside hM hb7).low (Nat.zero_le _), HB8.out⟩
            have hbw8 : base ≤ w8.heap.size := Nat.le_trans hbw7 hM.size
            clear hM hS4 hI4 hc4 hH4 hL4 hT4 hF4 hp4 hz4 hpost hh2 hl2 hhl hll hh3 hl3 hnl
            go_wp2_with fail
            go_roundg (100 - (i + 1))
            case measure => omega
            case rel => exact ⟨i + 1, by omega, by omega, by go_num, hbw8, HFIN⟩
          · have HFIN : As (RoundS base b bt w w4 cols (.slice Az z.length cz) (i + 1)) := ⟨S2, z2, hS2, hI2, hT2, hF2, hc2.trans HCS.out, by have := HHL.out; omega, by have := HLL.out; omega, HNT4.out, by rw [hpe1 hpe]; exact HZ4.out, HB4.out⟩
            have hpeb : (putE S.cols z d != 0) = true := by simpa using hpe
            generalize putE S.cols z d = pe at *
            clear hM hS2 hI2 hc2 hH2 hL2 hT2 hF2 hpost hpe1 hpe2 hB4 hpe
            go_wp2_with fail
            go_roundg (100 - (i + 1))
            case measure => omega
            case rel => exact ⟨i + 1, by omega, by omega, by go_num, hbw4, HFIN⟩
      · have hor : ¬ ((i : Int) < (ds.length : Int)) ∨ ((i : Int) < (ds.length : Int) ∧ ¬ (i : Int) < 100) := by omega
        obtain ⟨S, z, hS, hI, hT, hF, hcs, hH, hL, hNT, hZ, hBw⟩ := HR.out
        obtain ⟨Az, cz, rfl, _⟩ := hZ.shape
        have HI := As.mk hI
        have HT := As.mk hT
        have HF := As.mk hF
        have HC := As.mk hcs
        have HZZ := As.mk hZ
        have HX := As.mk hBw
        have HSP := As.mk hS
        have HNT2 := As.mk hNT
        have hzl := told_len hI hT
        have hIl := hI.live
        have HH : As (heldL S.bs ≤ 4294967296) := ⟨by omega⟩
        have HPUT := As.mk (put_any wr.heap.size bt ⟨cols, [], 0⟩ (.slice Az z.length cz) z wr (HW.out.below hBw) hZ.any (Nat.le_refl _) (hNT.spAny _) (by simp) (by simp [heldL]; omega) (by simp) (by simp))
        have HZL : As (z.length ≤ 30000) := ⟨by omega⟩
        clear hS hI hT hF hcs hH hL hNT hZ hBw hzl hIl HR hlt
        rcases hor with hor | ⟨hor1, hor2⟩
        all_goals (
          go_wp2_with fail
          refine HPUT.out.mono ?_
          rintro e w4 hpost
          have hp0 : putE cols [] z = 0 := by have := put_whole HT.out HF.out; rwa [HC.out] at this
          have hq := told_put (Inv.new cols) (told_new cols) (fun x hx => by cases hx) (fun x hx => (HT.out.ok.row x hx).2) hpost
          simp only [hp0] at hq
          obtain ⟨hM, rfl, S2, hS2, hI2, hc2, hH2, _, z2, hT2, _, _, hp2⟩ := hq
          have hsum : ZSum [] z z2 := by first | exact hp2 rfl | exact hp2 trivial | exact hp2
          have hz2 : z2 = z := zext hT2.ok HT.out.ok fun r hr => by rw [hsum r hr, zw_nil, Int.zero_add]
          rw [hz2] at hT2
          obtain ⟨csT, hbT⟩ := HNT2.out.head
          have HS4 := As.mk (HSP.out.other hM (Nat.le_refl _) hbT HNE.out.symm)
          have HZ4 := As.mk (HZZ.out.beside hM hbT)
          have HB4 : As (Below w.heap.size w w4) := ⟨HX.out.trans (hM.below HX.out.size HBT.out HX.out.size)⟩
          have HST := As.mk hS2
          have HI2 := As.mk hI2
          have HT2 := As.mk hT2
          have HH2 : As (heldL S2.bs ≤ 4294967296) := ⟨by have := HZL.out; simp [heldL] at hH2; omega⟩
          have hle : ((S.live : Int) == S2.live) = true := by rw [beq_iff_eq, told_len HI.out HT.out, told_len hI2 hT2]
          have hall := all_any base b S w4 HS4.out HH.out HI.out.sound
          clear hM hS2 hI2 hT2 hc2 hH2 hp2 hsum hz2 hpost hp0
          go_wp2_with fail
          refine hall.mono ?_
          rintro e w5 ⟨v5, rfl, hB5, xs, hp, hso, hrd⟩
          rw [told_all HI.out HT.out hp hso] at hrd
          have HB5 := As.mk (HB4.out.trans (hB5.mono HB4.out.size))
          have HZ5 := As.mk (HZ4.out.ext hB5)
          have HST5 := As.mk (HST.out.ext hB5)
          have HS5 := As.mk (HS4.out.ext hB5)
          obtain ⟨A5, c5, rfl, _⟩ := hrd.shape
          have HSM := As.mk (same3_any _ _ z z w5 hrd.any HZ5.out.any)
          rw [(sameZ_eq z z).2 rfl] at HSM
          clear hp hso hrd hB5 hall
          go_wp2_with fail
          refine HSM.out.mono ?_
          rintro e w6 ⟨rfl, m6, hw6⟩
          have hB6 : Below w5.heap.size w5 w6 := hw6 ▸ (Ext.drewN (Ext.refl _) _).below
          have HB6 := As.mk (HB5.out.trans (hB6.mono HB5.out.size))
          have HZ6 := As.mk (HZ5.out.ext hB6)
          have HST6 := As.mk (HST5.out.ext hB6)
          have HS6 := As.mk (HS5.out.ext hB6)
          have hall := all_any wr.heap.size bt S2 w6 HST6.out HH2.out HI2.out.sound
          clear hw6 hB6
          go_wp2_with fail
          refine hall.mono ?_
          rintro e w7 ⟨v7, rfl, hB7, xs, hp, hso, hrd⟩
          rw [told_all HI2.out HT2.out hp hso] at hrd
          have HB7 := As.mk (HB6.out.trans (hB7.mono HB6.out.size))
          have HZ7 := As.mk (HZ6.out.ext hB7)
          have HST7 := As.mk (HST6.out.ext hB7)
          have HS7 := As.mk (HS6.out.ext hB7)
          obtain ⟨A7, c7, rfl, _⟩ := hrd.shape
          have HSM2 := As.mk (same3_any _ _ z z w7 hrd.any HZ7.out.any)
          rw [(sameZ_eq z z).2 rfl] at HSM2
          clear hp hso hrd hB7 hall
          go_wp2_with fail
          refine HSM2.out.mono ?_
          rintro e w8 ⟨rfl, m8, hw8⟩
          have hB8 : Below w7.heap.size w7 w8 := hw8 ▸ (Ext.drewN (Ext.refl _) _).below
          have HB8 := As.mk (HB7.out.trans (hB8.mono HB7.out.size))
          have l1 := spLen_any base b S w8 (HS7.out.ext hB8)
          have l2 := spLen_any wr.heap.size bt S2 w8 (HST7.out.ext hB8)
          clear hw8 hB8
          go_wp2_with fail
          refine l1.mono ?_
          rintro e w9 ⟨rfl, rfl⟩
          go_wp2_with fail
          refine l2.mono ?_
          rintro e w10 ⟨rfl, rfl⟩
          go_wp2_with fail
          go_ret
          exact ⟨rfl, HB8.out⟩)
end Go.Proofs.YtmpndmjfdijamaaGreatDoor
