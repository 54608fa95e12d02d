/- The walk of the law SpineExact. -/
import Derived.Test.YtmpndmjfdijamaaGreatDoorRefS
import Derived.Test.YtmpndmjfdijamaaGreatDoorAct
import Derived.Test.YtmpndmjfdijamaaGreatDoorAwake2
import Derived.Deep.RegionHeld3
set_option linter.unusedVariables false
set_option linter.unusedSimpArgs false
namespace Go.Proofs.YtmpndmjfdijamaaGreatDoor
open Go.RowKit Go.Sort
/-! ### The plain law -/
theorem zw_fair {z : List GE} (h : ZOk z) (hf : FairZ z) (r : List GV) : fair (zw z r) = true := hf.at h r
theorem over_any {z d : List GE} (hz : ZOk z) (hf : FairZ z) (hd : ZOk d) (hdf : FairZ d) : overL (z ++ d) = d.any fun x => overW (zw z x.row) x.w := by
  rw [Bool.eq_iff_iff]
  unfold overL
  rw [List.any_eq_true, List.any_eq_true]
  constructor
  · rintro ⟨x, hx, h⟩
    rw [zw_app] at h
    have hne : zw d x.row ≠ 0 := fun h0 => by
      rw [h0, Int.add_zero, zw_fair hz hf] at h
      cases h
    obtain ⟨y, hy, e⟩ := zw_mem hne
    refine ⟨y, hy, ?_⟩
    rw [← e, hd.at hy] at h
    cases h2 : overW (zw z y.row) y.w with
    | true => rfl
    | false =>
      have := over_fair (zw_fair hz hf y.row) (hdf y hy) h2
      rw [this] at h
      cases h
  · rintro ⟨x, hx, h⟩
    refine ⟨x, by simp [hx], ?_⟩
    rw [zw_app, hd.at hx]
    cases hfx : fair (zw z x.row + x.w) with
    | false => rfl
    | true =>
      have := fair_over hfx
      rw [this] at h
      cases h
theorem putE_eq {cols : List Int} {z d : List GE} (hz : ZOk z) (hf : FairZ z) (ho : ∀ x ∈ d, ∀ v ∈ x.row, v.Ok) : rputE cols z d = putE cols z d := by
  unfold rputE putE
  cases hs : zsound d with
  | false => simp
  | true =>
    obtain ⟨h1, h2⟩ := zsound_ok hs ho
    rw [zok_sound hz hf, over_any hz hf h1 h2]
    simp
theorem keyIs_bad {cols : List Int} {key : List GV} (hk : rsound key = false) {z : List GE} (hz : ZOk z) : z.filter (fun x => keyIs cols key x.row) = [] := by
  rw [List.filter_eq_nil_iff]
  intro x hx h
  unfold keyIs at h
  cases hp : pick x.row cols with
  | none => rw [hp] at h; cases h
  | some k =>
    rw [hp] at h
    have e := (sameR_eq _ _).1 h
    have := (pick_ok (hz.row x hx) hp).1
    rw [e, hk] at this
    cases this
theorem rweight_eq {z : List GE} (hz : ZOk z) (hf : FairZ z) {r : List GV} (hr : rsound r = true) : rweight z r = zw z r := by
  unfold rweight
  rw [if_pos ⟨zok_sound hz hf, hr⟩, lookR_zw hz]
theorem weight_eq {S : GS} {z : List GE} (ht : Told S z) (hf : FairZ z) {r : List GV} (hv : ∀ x ∈ r, x.Ok) : weightOf S r = rweight z r := by
  cases hr : rsound r with
  | true => rw [rweight_eq ht.ok hf hr, told_weight ht ⟨hr, hv⟩]
  | false =>
    unfold rweight weightOf pick
    rw [if_neg (by rw [hr]; simp), if_neg (by rw [hr]; simp)]
theorem made_sum {z d a b : List GE} (ha : ZOk a) (hs : ZSum z d a) (hb : Made (z ++ d) b) : b = a := zext hb.ok ha fun r hr => by rw [hb.sum, zw_app, hs r hr]

/-! ### Frames -/
theorem SpAt.grown {base b b2 : Nat} {w w' : World} {S : GS} (h : SpAt base b w S) (hg : w.grownBy w' (some b2)) {cs : Array Value} {fr : Nat × Nat} (hb : w.heap[b2]? = some (.cells cs 49 fr)) : SpAt base b w' S := by
  obtain ⟨u, bv, h1, h2, h3⟩ := h
  have hst : ∀ ok : Blk, (∀ k, ¬ ok k 49) → Stays w w' ok ok := fun ok hok => Stays.grown hg ok fun g t cells f hgb hh ho => by
    injection hgb with hgb
    subst hgb
    exact hok _ (tag_eq hb hh ▸ ho)
  have hne : b ≠ b2 := fun e => by
    subst e
    have := tag_eq h1 hb
    revert this
    decide
  refine ⟨u, bv, (hg.block b (Array.getElem?_eq_some_iff.1 h1).1 (fun e => hne (Option.some.inj e))).trans h1, h2.mv (hst _ fun k h => by have := h.2; simp at this), (h3.imp fun _ _ e => e.mv (hst _ fun k h => by have := h.2; simp at this)).kept hg (.inr fun e => ?_)⟩
  obtain ⟨cells, hc⟩ := h3.typed _ e
  have := tag_eq hc hb
  revert this
  decide
theorem RSAt.mut {base b b2 : Nat} {w w' : World} {cols : List Int} {z : List GE} (h : RSAt b2 w cols z) (hm : Mut base b w w') {cs : Array Value} {fr : Nat × Nat} (hb : w.heap[b]? = some (.cells cs 69 fr)) : RSAt b2 w' cols z := by
  refine h.mv ?_ (hm.stays hb ?_) (hm.stays hb ?_)
  · obtain ⟨_, _, h1, _⟩ := h
    rw [h1]
    refine hm.block b2 _ h1 (fun e => ?_) (.inr fun c fz e => ?_)
    · subst e
      have := tag_eq h1 hb
      revert this
      decide
    · injection e with _ h2 _
      revert h2
      decide
  · intro k t h
    have := h.2
    simp only [List.mem_cons, List.not_mem_nil, or_false] at this
    subst this
    exact ⟨by decide, by decide, h⟩
  · intro k t h
    have := h.2
    simp only [List.mem_cons, List.not_mem_nil, or_false] at this
    rcases this with rfl | rfl
    · exact ⟨by decide, by decide, h⟩
    · exact ⟨by decide, by decide, h⟩
theorem SpAt.head' {base b : Nat} {w : World} {S : GS} (h : SpAt base b w S) : ∃ cs, w.heap[b]? = some (.cells cs 69 (0, 0)) := let ⟨_, _, h1, _⟩ := h; ⟨_, h1⟩
theorem RSAt.head {b : Nat} {w : World} {cols : List Int} {z : List GE} (h : RSAt b w cols z) : ∃ cs, w.heap[b]? = some (.cells cs 49 (0, 0)) := let ⟨_, _, h1, _⟩ := h; ⟨_, h1⟩
/-- Both spines, holding z. -/
structure Both (base b b2 : Nat) (w wr : World) (cols : List Int) (n : Nat) (S : GS) (z : List GE) : Prop where
  sp : SpAt base b wr S
  inv : Inv S
  hcols : S.cols = cols
  held : heldL S.bs ≤ n
  live : S.live ≤ n
  told : Told S z
  fz : FairZ z
  rs : RSAt b2 wr cols z
  bel : Below w.heap.size w wr
  bb : w.heap.size ≤ b
  bb2 : w.heap.size ≤ b2
  base1 : w.heap.size ≤ base
  base2 : base ≤ wr.heap.size
section
variable {base b b2 n : Nat} {w wr w' : World} {cols : List Int} {S : GS} {z : List GE}
theorem Both.ext (h : Both base b b2 w wr cols n S z) (hb : Below wr.heap.size wr w') : Both base b b2 w w' cols n S z :=
  ⟨h.sp.ext hb, h.inv, h.hcols, h.held, h.live, h.told, h.fz, h.rs.ext hb, h.bel.trans (hb.mono h.bel.size), h.bb, h.bb2, h.base1, Nat.le_trans h.base2 hb.size⟩
theorem Both.mono (h : Both base b b2 w wr cols n S z) {m : Nat} (hm : n ≤ m) : Both base b b2 w wr cols m S z :=
  ⟨h.sp, h.inv, h.hcols, Nat.le_trans h.held hm, by have := h.live; omega, h.told, h.fz, h.rs, h.bel, h.bb, h.bb2, h.base1, h.base2⟩
theorem Both.len (h : Both base b b2 w wr cols n S z) : S.live = z.length := told_len h.inv h.told
/-- What the first Put leaves. -/
structure Half (base b b2 : Nat) (w wr : World) (cols : List Int) (n : Nat) (S : GS) (z d z2 : List GE) : Prop where
  sp : SpAt base b wr S
  inv : Inv S
  hcols : S.cols = cols
  held : heldL S.bs ≤ n
  live : S.live ≤ n
  told : Told S z2
  fz : FairZ z2
  rs : RSAt b2 wr cols z
  bel : Below w.heap.size w wr
  bb : w.heap.size ≤ b
  bb2 : w.heap.size ≤ b2
  base1 : w.heap.size ≤ base
  base2 : base ≤ wr.heap.size
  no : putE cols z d ≠ 0 → z2 = z
  yes : putE cols z d = 0 → ZSum z d z2
theorem Half.ext {d z2 : List GE} (h : Half base b b2 w wr cols n S z d z2) (hb : Below wr.heap.size wr w') : Half base b b2 w w' cols n S z d z2 :=
  ⟨h.sp.ext hb, h.inv, h.hcols, h.held, h.live, h.told, h.fz, h.rs.ext hb, h.bel.trans (hb.mono h.bel.size), h.bb, h.bb2, h.base1, Nat.le_trans h.base2 hb.size, h.no, h.yes⟩
theorem Both.put {d : List GE} {e : Ending} (h : Both base b b2 w wr cols n S z) (ho : ∀ x ∈ d, ∀ v ∈ x.row, v.Ok) (hp : PutPost base b S d wr e w') :
    e = .returned (.int .i64 (putE cols z d)) ∧ ∃ S2 z2, Half base b b2 w w' cols (n + d.length) S2 z d z2 := by
  obtain ⟨hm, he, S2, k1, k2, k3, k4, k5, z2, k6, k7, k8, k9⟩ := told_put h.inv h.told h.fz ho hp
  obtain ⟨cs, hh⟩ := h.sp.head'
  rw [h.hcols] at he k8 k9
  refine ⟨he, S2, z2, k1, k2, k3.trans h.hcols, by have := h.held; omega, by have := h.live; omega, k6, k7, h.rs.mut hm hh, h.bel.trans (hm.below h.base1 h.bb h.bel.size), h.bb, h.bb2, h.base1, Nat.le_trans h.base2 hm.size, k8, k9⟩
theorem Half.put {d z2 : List GE} {e : Ending} (h : Half base b b2 w wr cols n S z d z2) (hz : ZOk z) (hf : FairZ z) (ho : ∀ x ∈ d, ∀ v ∈ x.row, v.Ok) (hp : RPutPost b2 cols z d wr e w') :
    e = .returned (.int .i64 (putE cols z d)) ∧ Both base b b2 w w' cols n S z2 := by
  obtain ⟨hg, he, h0, h1⟩ := hp
  rw [putE_eq hz hf ho] at he h0 h1
  obtain ⟨cs, hh⟩ := h.rs.head
  refine ⟨he, h.sp.grown hg hh, h.inv, h.hcols, h.held, h.live, h.told, h.fz, ?_, h.bel.grown hg h.bel.size (fun k hk => by injection hk with hk; have := h.bb2; omega), h.bb, h.bb2, h.base1, Nat.le_trans h.base2 hg.size⟩
  by_cases hE : putE cols z d = 0
  · obtain ⟨z', hm, hr, _⟩ := h1 hE
    rw [made_sum h.told.ok (h.yes hE) hm] at hr
    exact hr
  · rw [h.no hE]; exact h0 hE
/-- A list is answered. -/
def ZIs (w0 : World) (l : List GE) (e : Ending) (w' : World) : Prop := ∃ A c, e = .returned (.slice A l.length c) ∧ RdZ w' AnyB (.slice A l.length c) l ∧ Below w0.heap.size w0 w'
theorem Both.get (h : Both base b b2 w wr cols n S z) (hn : n ≤ 1000000) (hw : GW wr) {v : Value} {key : List GV} (hv : RdV wr AnyB v key) :
    Calls Tryz.prog 19 #[.pointer (some ⟨b, 0, none⟩), v] wr (ZIs wr (z.filter fun x => keyIs cols key x.row)) := by
  cases hk : rsound key with
  | true =>
    refine (get_any base b S v key wr hw hv hk h.sp (fun z hz => (h.inv.fine z hz).1) (by have := h.held; omega) h.inv.sound).mono ?_
    rintro e w2 ⟨v2, rfl, hB, xs, hp, hso, hrd⟩
    have e1 := told_get h.inv h.told ⟨hk, hv.all⟩ hp hso
    rw [h.hcols] at e1
    subst e1
    obtain ⟨A, c, rfl, _⟩ := hrd.shape
    exact ⟨A, c, rfl, hrd.any, hB⟩
  | false =>
    refine (get_bad b v key wr hw hv hk).mono ?_
    rintro e w2 ⟨rfl, hB⟩
    rw [keyIs_bad hk h.told.ok]
    exact ⟨none, 0, rfl, RdL.nil _ _ _ _, hB⟩
theorem Both.rget (h : Both base b b2 w wr cols n S z) {v : Value} {key : List GV} (hv : RdV wr AnyB v key) :
    Calls Tryz.prog 20 #[.pointer (some ⟨b2, 0, none⟩), v] wr (ZIs wr (z.filter fun x => keyIs cols key x.row)) :=
  r4Get_any b2 cols z v key wr h.rs hv fun x hx => by have := h.told.key x hx; rw [h.hcols] at this; exact this
theorem Both.all (h : Both base b b2 w wr cols n S z) (hn : n ≤ 1000000) : Calls Tryz.prog 21 #[.pointer (some ⟨b, 0, none⟩)] wr (ZIs wr z) := by
  refine (all_any base b S wr h.sp (by have := h.held; omega) h.inv.sound).mono ?_
  rintro e w2 ⟨v2, rfl, hB, xs, hp, hso, hrd⟩
  have e1 := told_all h.inv h.told hp hso
  subst e1
  obtain ⟨A, c, rfl, _⟩ := hrd.shape
  exact ⟨A, c, rfl, hrd.any, hB⟩
theorem Both.weight (h : Both base b b2 w wr cols n S z) (hw : GW wr) {v : Value} {r : List GV} (hv : RdV wr AnyB v r) :
    Calls Tryz.prog 16 #[.pointer (some ⟨b, 0, none⟩), v] wr fun e w' => e = .returned (.int .i64 (rweight z r)) ∧ Below wr.heap.size wr w' := by
  rw [← weight_eq h.told h.fz hv.all]
  exact spWeight_any base b S v r wr hw h.sp (fun z hz => (h.inv.fine z hz).1) hv
theorem Both.rw_of (h : Both base b b2 w wr cols n S z) {x : GE} (hx : x ∈ z) : rweight z x.row = x.w := by
  rw [rweight_eq h.told.ok h.fz (h.told.ok.row x hx).1, h.told.ok.at hx]
theorem Both.compact (h : Both base b b2 w wr cols n S z) (hn : n ≤ 1000000) :
    Calls Tryz.prog 13 #[.pointer (some ⟨b, 0, none⟩)] wr fun e w' => e = .returned (.tuple #[]) ∧ ∃ S2, Both base b b2 w w' cols n S2 z := by
  obtain ⟨c2, bs2, l2⟩ := S
  refine (compact_any base b c2 l2 bs2 wr h.base2 h.sp (by have := h.held; simp only at this; omega)).mono ?_
  rintro e w2 ⟨rfl, bs3, ⟨hS5, hJ5, hM5⟩, hl3⟩
  have hI3 := hJ5.inv h.inv.fine h.inv.row h.inv.live (.inl hl3)
  obtain ⟨cs, hh⟩ := h.sp.head'
  exact ⟨rfl, ⟨c2, bs3, l2⟩, hS5, hI3, h.hcols, by have h1 := h.held; have h2 := hJ5.held; simp only at *; omega, h.live, told_joins h.told h.inv.fine hJ5 rfl, h.fz, h.rs.mut hM5 hh, h.bel.trans (hM5.below h.base1 h.bb h.bel.size), h.bb, h.bb2, h.base1, Nat.le_trans h.base2 hM5.size⟩
theorem Both.lenC (h : Both base b b2 w wr cols n S z) : Calls Tryz.prog 14 #[.pointer (some ⟨b, 0, none⟩)] wr fun e w' => e = .returned (.int .i64 z.length) ∧ wr = w' := by
  rw [← h.len]
  exact spLen_any base b S wr h.sp
theorem Both.zlen (h : Both base b b2 w wr cols n S z) : z.length ≤ n := by
  have h1 := h.len
  have h2 := h.live
  omega
theorem ZIs.from {w0 w1 w' : World} {l : List GE} {e : Ending} (h : ZIs w1 l e w') (hb : Below w0.heap.size w0 w1) : ZIs w0 l e w' := by
  obtain ⟨A, c, h1, h2, h3⟩ := h
  exact ⟨A, c, h1, h2, hb.trans (h3.mono hb.size)⟩
/-- All contracts behind w4. -/
structure Told4 (b b2 : Nat) (w4 : World) (Q : Value) (z fl : List GE) (wt : Int) : Prop where
  len : ∀ W, Below w4.heap.size w4 W → Calls Tryz.prog 14 #[.pointer (some ⟨b, 0, none⟩)] W fun e w' => e = .returned (.int .i64 z.length) ∧ W = w'
  rall : ∀ W, Below w4.heap.size w4 W → Calls Tryz.prog 15 #[.pointer (some ⟨b2, 0, none⟩)] W fun e w' => ∃ A c, e = .returned (.slice A z.length c) ∧ RdZ W AnyB (.slice A z.length c) z ∧ W = w'
  all : ∀ W, Below w4.heap.size w4 W → Calls Tryz.prog 21 #[.pointer (some ⟨b, 0, none⟩)] W (ZIs w4 z)
  weight : ∀ W, Below w4.heap.size w4 W → Calls Tryz.prog 16 #[.pointer (some ⟨b, 0, none⟩), Q] W fun e w' => e = .returned (.int .i64 wt) ∧ Below w4.heap.size w4 w'
  rweight : ∀ W, Below w4.heap.size w4 W → Calls Tryz.prog 17 #[.pointer (some ⟨b2, 0, none⟩), Q] W fun e w' => e = .returned (.int .i64 wt) ∧ Below w4.heap.size w4 w'
  get : ∀ W, Below w4.heap.size w4 W → Calls Tryz.prog 19 #[.pointer (some ⟨b, 0, none⟩), Q] W (ZIs w4 fl)
  rget : ∀ W, Below w4.heap.size w4 W → Calls Tryz.prog 20 #[.pointer (some ⟨b2, 0, none⟩), Q] W (ZIs W fl)
  same : ∀ W u v l, Below w4.heap.size w4 W → RdZ W AnyB u l → RdZ W AnyB v l → Calls Tryz.prog 18 #[u, v] W fun e w' => e = .returned (.bool true) ∧ Below w4.heap.size w4 w'
theorem Both.told4 (h : Both base b b2 w wr cols n S z) (hn : n ≤ 1000000) (hw : GW wr) {v : Value} {key : List GV} (hv : RdV wr AnyB v key) : Told4 b b2 wr v z (z.filter fun x => keyIs cols key x.row) (rweight z key) where
  len W hE := (h.ext hE).lenC
  rall W hE := (r4All_any b2 cols z W (h.ext hE).rs).mono fun e w' ⟨A, c, h1, h2, h3⟩ => ⟨A, c, h1, h2.mv (Stays.any _ _), h3⟩
  all W hE := ((h.ext hE).all hn).mono fun e w' h => h.from hE
  weight W hE := ((h.ext hE).weight (hw.below hE) (hv.ext hE)).mono fun e w' ⟨h1, h2⟩ => ⟨h1, hE.trans (h2.mono hE.size)⟩
  rweight W hE := (r4Weight_any b2 cols z v key W (h.ext hE).rs (hv.ext hE)).mono fun e w' ⟨h1, h2⟩ => ⟨h1, hE.trans (h2.below.mono hE.size)⟩
  get W hE := ((h.ext hE).get hn (hw.below hE) (hv.ext hE)).mono fun e w' h => h.from hE
  rget W hE := (h.ext hE).rget (hv.ext hE)
  same W u v l hE h1 h2 := (same3_any u v l l W h1 h2).mono fun e w' ⟨h3, m, h4⟩ => ⟨by rw [h3, (sameZ_eq l l).2 rfl], by
    subst h4
    exact hE.trans ((Ext.drewN (Ext.refl _) _).below.mono hE.size)⟩
end
set_option maxHeartbeats 16000000 in
set_option maxRecDepth 100000 in
theorem lawExact_any (u v q : Value) (cols : List Int) (acts : List GA) (ask : List GV) (w : World) (hw : GW w) (hc : RdI w AnyB u cols) (ha : RdA w AnyB v acts) (hq : RdV w AnyB q ask) :
    Calls Tryz.prog 3 #[u, v, q] w fun e w' => e = .returned (.bool true) ∧ Below w.heap.size w w' := by
  have mixed := mixed
  have h0 := awake_any w hw
  obtain ⟨A, c, rfl, hac⟩ := ha.shape
  obtain ⟨Q, qc, rfl, _⟩ := hq.shape
  have hal := ha.len
  have HW := As.mk hw
  have HAC := As.mk ha
  have HQ := As.mk hq
  cases hco : colsOk cols with
  | false =>
    have h1 := fun W (hE : Below w.heap.size w W) => spNew_bad u cols W (hc.ext hE) hco
    have h2 := fun W (hE : Below w.heap.size w W) => r4New_any u cols W (hc.ext hE)
    have HCO := As.mk hco
    obtain ⟨_, _, hu, _⟩ := hc.shape
    subst hu
    clear hc ha hw hq hco
    go_enter Tryz.func3, Tryz.ntmps3
    go_wp2_with (first | (go_at_call 8; refine h0.mono ?_; rintro e w1 ⟨rfl, hB1⟩) | (go_at_call 9; refine (h1 _ hB1).mono ?_; rintro e w2 ⟨rfl, hB2⟩; have hB12 := hB1.trans (hB2.mono hB1.size)) | (go_at_call 10; refine (h2 _ hB12).mono ?_; rintro e w3 ⟨hB3, hp⟩; rw [if_pos HCO.out] at hp; subst hp))
    have HB0 : As (Below w.heap.size w w3) := ⟨hB12.trans (hB3.mono hB12.size)⟩
    clear h1 h2 h0
    go_loopg [11] 100 (fun g s11 wr => ∃ (i : Nat), i ≤ 100 ∧ 100 - i ≤ g ∧ s11 = .int .i64 i ∧ As (Below w.heap.size w wr))
    case atStart => exact ⟨0, by omega, by omega, by go_num, HB0⟩
    case round =>
      obtain ⟨i, hi, hg, rfl, HB⟩ := hrel
      have hB := HB.out
      by_cases hlt : i < acts.length ∧ i < 100
      · obtain ⟨hlt1, hlt2⟩ := hlt
        have hltz : (i : Int) < (acts.length : Int) := by omega
        have hltz2 : (i : Int) < 100 := by omega
        obtain ⟨x, hx⟩ : ∃ x, acts[i]? = some x := ⟨_, List.getElem?_eq_getElem hlt1⟩
        obtain ⟨ba, oa, ca, Ad, dd, hv, hba, hd0, e0w, e1w⟩ := HAC.out.act hx
        have e0 := (hB.cell (p := ⟨ba, oa + i * 2, none⟩) hba).trans e0w
        have e1 := (hB.cell (p := ⟨ba, oa + i * 2 + 1, none⟩) hba).trans e1w
        injection hv with hA' _ hccc
        subst hA'
        obtain ⟨dz, pk⟩ := x
        simp only at *
        clear hd0 hx hccc e0w e1w
        by_cases hbig : 100 < dz.length
        · have hbz : (100 : Int) < (dz.length : Int) := by omega
          go_wp2_with fail
          go_ret
          exact ⟨rfl, hB⟩
        · have hbz : ¬ (100 : Int) < (dz.length : Int) := by omega
          have g0 := gc e0
          have HGE := As.mk (fun W (hE : Below w.heap.size w W) => get_nil (.slice Q ask.length qc) ask W (HW.out.below hE) (HQ.out.ext hE))
          have HSM := As.mk (fun W u v (h1 : RdZ W AnyB u []) (h2 : RdZ W AnyB v []) => same3_any u v [] [] W h1 h2)
          have hE0 : Ext wr wr := Ext.refl _
          go_wp2_with fail
          (refine wp_region_quiet_grown (by assumption) (by kernel_rfl) ?_; (repeat (go_big_quiet_step ( first | (go_at_call 11; exact grown_ext ((put_nil _ _).mono fun _ _ ⟨he, hw⟩ => ⟨he, hw ▸ Ext.refl _⟩)) | (go_at_call 12; exact grown_ext ((r4Put_nil _ _).mono fun _ _ ⟨he, hw⟩ => ⟨he, hw ▸ Ext.refl _⟩)) ))); refine wpQuiet_nil ?_; intro _ hw'; obtain ⟨⟨nq, osq⟩, hw''⟩ := hw'; subst hw'')
          have hE4 : Ext wr (grow (wr.drewN nq) osq) := ⟨nq, osq, rfl⟩
          generalize grow (wr.drewN nq) osq = w4 at *
          have f1 := hE4.cell e1
          have hB4 : Below w.heap.size w w4 := hB.trans (hE4.below.mono hB.size)
          clear hE4 g0 e0 e1
          go_wp2_with (first | (go_at_call 13; refine (compact_nil _).mono ?_; rintro e w' ⟨rfl, rfl⟩) | (go_at_call 14; refine (spLen_nil _).mono ?_; rintro e w' ⟨rfl, rfl⟩) | (go_at_call 15; refine (r4All_nil _).mono ?_; rintro e w' ⟨rfl, rfl⟩) | (go_at_call 16; refine (spWeight_nil _ _).mono ?_; rintro e w' ⟨rfl, rfl⟩) | (go_at_call 17; refine (r4Weight_nil _ _).mono ?_; rintro e w' ⟨rfl, rfl⟩) | (go_at_call 21; refine (all_nil _).mono ?_; rintro e w' ⟨rfl, rfl⟩) | (go_at_call 19; refine (HGE.out _ hB4).mono ?_; rintro e w5 ⟨rfl, hB5⟩; have hB45 := hB4.trans (hB5.mono hB4.size)) | (go_at_call 20; refine (r4Get_nil _ _).mono ?_; rintro e w6 ⟨⟨A6, c6, rfl, hr6⟩, hB6⟩; have hB46 := hB45.trans (hB6.mono hB45.size)) | (go_at_call 18; (with_reducible refine (HSM.out _ _ _ (RdL.nil _ _ _ _) hr6).mono ?_); rintro e w7 ⟨rfl, m7, hw7⟩; have hB47 := hB46.trans (((hw7 ▸ Ext.drewN (Ext.refl _) _ : Ext w6 w7)).below.mono hB46.size); clear hw7) | (go_at_call 18; (with_reducible refine (HSM.out _ _ _ (RdL.nil _ _ _ _) (RdL.nil _ _ _ _)).mono ?_); rintro e w8 ⟨rfl, m8, hw8⟩; have hB48 := hB47.trans (((hw8 ▸ Ext.drewN (Ext.refl _) _ : Ext w7 w8)).below.mono hB47.size); clear hw8))
          all_goals
            go_roundg (100 - (i + 1))
            case measure => omega
            case rel => exact ⟨i + 1, by omega, by omega, by go_num, ⟨hB48⟩⟩
      · by_cases hlt1 : i < acts.length
        · have hltz : (i : Int) < (acts.length : Int) := by omega
          have hltz2 : ¬ (i : Int) < 100 := by omega
          go_wp2_with (go_at_call 15; refine (r4All_nil _).mono ?_; rintro e w' ⟨rfl, rfl⟩)
          go_loopg [13] 1 (fun g s13 wr2 => s13 = .int .i64 0 ∧ wr2 = wr)
          case atStart => exact ⟨by go_num, rfl⟩
          case round =>
            obtain ⟨rfl, rfl⟩ := hrel
            go_wp2_with fail
            go_ret
            exact ⟨rfl, hB⟩
        · have hltz : ¬ (i : Int) < (acts.length : Int) := by omega
          go_wp2_with (go_at_call 15; refine (r4All_nil _).mono ?_; rintro e w' ⟨rfl, rfl⟩)
          go_loopg [13] 1 (fun g s13 wr2 => s13 = .int .i64 0 ∧ wr2 = wr)
          case atStart => exact ⟨by go_num, rfl⟩
          case round =>
            obtain ⟨rfl, rfl⟩ := hrel
            go_wp2_with fail
            go_ret
            exact ⟨rfl, hB⟩
  | true =>
    have h1 := fun W (hE : Below w.heap.size w W) => spNew_good u cols W (hc.ext hE) hco
    have h2 := fun W (hE : Below w.heap.size w W) => r4New_any u cols W (hc.ext hE)
    have HCO := As.mk hco
    obtain ⟨_, _, hu, _⟩ := hc.shape
    subst hu
    clear hc ha hw hq hco
    go_enter Tryz.func3, Tryz.ntmps3
    go_wp2_with (first | (go_at_call 8; refine h0.mono ?_; rintro e w1 ⟨rfl, hB1⟩) | (go_at_call 9; refine (h1 _ hB1).mono ?_; rintro e w2 ⟨b, rfl, hN, hB2⟩; have HN := As.mk hN.sp; have HBB := As.mk hN.1; have HB2 := As.mk (hB1.trans (hB2.mono hB1.size)); clear hN hB2) | (go_at_call 10; refine (h2 _ HB2.out).mono ?_; rintro e w3 ⟨hB3, hp⟩; rw [if_neg (by rw [HCO.out]; simp)] at hp; obtain ⟨b2, rfl, hb2, hrs⟩ := hp; have HRS := As.mk hrs; have HBB2 := As.mk hb2; have HB3 := As.mk hB3; clear hrs hb2 hB3))
    have HBO : As (∃ S z, Both w1.heap.size b b2 w w3 cols (0 * 100) S z) := ⟨⟨⟨cols, [], 0⟩, [], HN.out.ext HB3.out, Inv.new cols, rfl, by simp [heldL], by simp, told_new cols, fun x hx => (by cases hx), HRS.out, HB2.out.trans (HB3.out.mono HB2.out.size), Nat.le_trans hB1.size HBB.out, Nat.le_trans HB2.out.size HBB2.out, hB1.size, by
      have h1 := HB3.out.size
      have h2 := HN.out.lt
      have h3 := HBB.out
      omega⟩⟩
    generalize w1.heap.size = base at *
    clear h1 h2 h0
    go_loopg [11] 100 (fun g s11 wr => ∃ (i : Nat), i ≤ 100 ∧ 100 - i ≤ g ∧ s11 = .int .i64 i ∧ As (∃ S z, Both base b b2 w wr cols (i * 100) S z))
    case atStart => exact ⟨0, by omega, by omega, by go_num, HBO⟩
    case round =>
      obtain ⟨i, hi, hg, rfl, HB⟩ := hrel
      obtain ⟨S, z, hbo⟩ := HB.out
      have HBO := As.mk hbo
      have hB := hbo.bel
      clear hbo HB
      by_cases hlt : i < acts.length ∧ i < 100
      · obtain ⟨hlt1, hlt2⟩ := hlt
        have hltz : (i : Int) < (acts.length : Int) := by omega
        have hltz2 : (i : Int) < 100 := by omega
        obtain ⟨x, hx⟩ : ∃ x, acts[i]? = some x := ⟨_, List.getElem?_eq_getElem hlt1⟩
        obtain ⟨ba, oa, ca, Ad, dd, hv, hba, hd0, e0w, e1w⟩ := HAC.out.act hx
        have e0 := (hB.cell (p := ⟨ba, oa + i * 2, none⟩) hba).trans e0w
        have e1 := (hB.cell (p := ⟨ba, oa + i * 2 + 1, none⟩) hba).trans e1w
        injection hv with hA' _ hccc
        subst hA'
        obtain ⟨dz, pk⟩ := x
        simp only at *
        have HD := As.mk hd0
        clear hd0 hx hccc
        by_cases hbig : 100 < dz.length
        · have hbz : (100 : Int) < (dz.length : Int) := by omega
          clear e0w e1w
          go_wp2_with fail
          go_ret
          exact ⟨rfl, hB⟩
        · have hbz : ¬ (100 : Int) < (dz.length : Int) := by omega
          have HDV := As.mk HD.out.vals
          have HP1 := As.mk (fun W (hE : Below wr.heap.size wr W) => put_any base b S (.slice Ad dz.length dd) dz W (HW.out.below (hB.trans (hE.mono hB.size))) (HD.out.ext (hB.trans (hE.mono hB.size))) (Nat.le_trans HBO.out.base2 hE.size) (HBO.out.ext hE).sp (fun z hz => (HBO.out.inv.fine z hz).1)
            (by have := HBO.out.held; omega) (by have h1 := HBO.out.live; have h2 := HBO.out.len; omega) (by have h1 := HBO.out.held; have h2 := HBO.out.inv.fine.nums; omega))
          have HZL := As.mk HBO.out.zlen
          have HZO := As.mk HBO.out.told.ok
          have HZF := As.mk HBO.out.fz
          have hE1 := (Ext.drew (Ext.refl wr)).below
          have HE0 := As.mk e0w
          have HE1W := As.mk e1w
          clear e0w e1w
          generalize putE cols z dz = pe at *
          go_wp2_with fail
          go_region_law (go_simp; first | (go_at_call 11; refine (HP1.out _ (by first | exact Below.refl _ _ | exact hE1)).mono ?_; rintro e w2 hpost; obtain ⟨rfl, S2, z2, hhalf⟩ := Both.put (HBO.out.ext (by first | exact Below.refl _ _ | exact hE1)) HDV.out hpost; have HHA := As.mk hhalf; have k0 := (hhalf.bel.cell (p := ⟨ba, oa + i * 2, none⟩) hba).trans HE0.out; clear hpost hhalf) | (go_at_call 12; refine (r4Put_any b2 cols z _ dz _ (HHA.out.ext (by first | exact Below.refl _ _ | exact (Ext.drew (Ext.refl _)).below)).rs (HD.out.ext (HHA.out.ext (by first | exact Below.refl _ _ | exact (Ext.drew (Ext.refl _)).below)).bel) (by have := HZL.out; omega)).mono ?_; rintro e w3 hpost; obtain ⟨rfl, hb3⟩ := Half.put (HHA.out.ext (by first | exact Below.refl _ _ | exact (Ext.drew (Ext.refl _)).below)) HZO.out HZF.out HDV.out hpost; have HB3 := As.mk hb3; clear hpost hb3))
          all_goals
            have hB3 := HB3.out.bel
            have f1 := (hB3.cell (p := ⟨ba, oa + i * 2 + 1, none⟩) hba).trans HE1W.out
            clear HHA HP1 k0 e0 e1
            cases pk with
            | false =>
              obtain ⟨fl, hfl⟩ : ∃ fl, fl = z2.filter fun x => keyIs cols ask x.row := ⟨_, rfl⟩
              obtain ⟨wt, hwt⟩ : ∃ wt, wt = rweight z2 ask := ⟨_, rfl⟩
              have HT := As.mk (HB3.out.told4 (by omega) (HW.out.below hB3) (HQ.out.ext hB3))
              rw [← hfl, ← hwt] at HT
              have hb4 : Below w3.heap.size w3 w3 := Below.refl _ _
              have HB4 := HB3
              clear hfl hwt
              go_wp2_with (first | (go_at_call 14; refine (HT.out.len _ (by assumption)).mono ?_; rintro e w' ⟨rfl, rfl⟩) | (go_at_call 15; refine (HT.out.rall _ (by assumption)).mono ?_; rintro e w' ⟨A5, c5, rfl, hr5, rfl⟩; have HR5 := As.mk hr5; clear hr5) | (go_at_call 16; refine (HT.out.weight _ (by assumption)).mono ?_; rintro e w6 ⟨rfl, hb6⟩) | (go_at_call 17; refine (HT.out.rweight _ (by assumption)).mono ?_; rintro e w7 ⟨rfl, hb7⟩) | (go_at_call 19; refine (HT.out.get _ (by assumption)).mono ?_; rintro e w8 ⟨A8, c8, rfl, hr8, hb8⟩; have HR8 := As.mk hr8; clear hr8) | (go_at_call 20; refine (HT.out.rget _ (by assumption)).mono ?_; rintro e w9 ⟨A9, c9, rfl, hr9, hb89⟩; have hb9 := hb8.trans (hb89.mono hb8.size); have HR89 := As.mk (HR8.out.ext hb89); have HR9 := As.mk hr9; clear hr9 hb89) | (go_at_call 18; (with_reducible refine (HT.out.same _ _ _ _ (by assumption) HR89.out HR9.out).mono ?_); rintro e w10 ⟨rfl, hb10⟩) | (go_at_call 21; refine (HT.out.all _ (by assumption)).mono ?_; rintro e w11 ⟨A11, c11, rfl, hr11, hb11⟩; have HR11 := As.mk hr11; clear hr11) | (go_at_call 18; (with_reducible refine (HT.out.same _ _ _ _ (by assumption) HR11.out HR5.out).mono ?_); rintro e w12 ⟨rfl, hb12⟩))
              go_roundg (100 - (i + 1))
              case measure => omega
              case rel => exact ⟨i + 1, by omega, by omega, by go_num, ⟨_, z2, (HB4.out.ext hb12).mono (by omega)⟩⟩
            | true =>
              have HCM := As.mk (HB3.out.compact (by omega))
              go_wp2_with fail
              refine HCM.out.mono ?_
              rintro e w4 ⟨rfl, S3, hb4⟩
              have HB4 := As.mk hb4
              have hB4 := hb4.bel
              clear hb4 HB3 HCM hB3
              obtain ⟨fl, hfl⟩ : ∃ fl, fl = z2.filter fun x => keyIs cols ask x.row := ⟨_, rfl⟩
              obtain ⟨wt, hwt⟩ : ∃ wt, wt = rweight z2 ask := ⟨_, rfl⟩
              have HT := As.mk (HB4.out.told4 (by omega) (HW.out.below hB4) (HQ.out.ext hB4))
              rw [← hfl, ← hwt] at HT
              have hb4 : Below w4.heap.size w4 w4 := Below.refl _ _
              clear hfl hwt
              go_wp2_with (first | (go_at_call 14; refine (HT.out.len _ (by assumption)).mono ?_; rintro e w' ⟨rfl, rfl⟩) | (go_at_call 15; refine (HT.out.rall _ (by assumption)).mono ?_; rintro e w' ⟨A5, c5, rfl, hr5, rfl⟩; have HR5 := As.mk hr5; clear hr5) | (go_at_call 16; refine (HT.out.weight _ (by assumption)).mono ?_; rintro e w6 ⟨rfl, hb6⟩) | (go_at_call 17; refine (HT.out.rweight _ (by assumption)).mono ?_; rintro e w7 ⟨rfl, hb7⟩) | (go_at_call 19; refine (HT.out.get _ (by assumption)).mono ?_; rintro e w8 ⟨A8, c8, rfl, hr8, hb8⟩; have HR8 := As.mk hr8; clear hr8) | (go_at_call 20; refine (HT.out.rget _ (by assumption)).mono ?_; rintro e w9 ⟨A9, c9, rfl, hr9, hb89⟩; have hb9 := hb8.trans (hb89.mono hb8.size); have HR89 := As.mk (HR8.out.ext hb89); have HR9 := As.mk hr9; clear hr9 hb89) | (go_at_call 18; (with_reducible refine (HT.out.same _ _ _ _ (by assumption) HR89.out HR9.out).mono ?_); rintro e w10 ⟨rfl, hb10⟩) | (go_at_call 21; refine (HT.out.all _ (by assumption)).mono ?_; rintro e w11 ⟨A11, c11, rfl, hr11, hb11⟩; have HR11 := As.mk hr11; clear hr11) | (go_at_call 18; (with_reducible refine (HT.out.same _ _ _ _ (by assumption) HR11.out HR5.out).mono ?_); rintro e w12 ⟨rfl, hb12⟩))
              go_roundg (100 - (i + 1))
              case measure => omega
              case rel => exact ⟨i + 1, by omega, by omega, by go_num, ⟨_, z2, (HB4.out.ext hb12).mono (by omega)⟩⟩
      · obtain ⟨key0, hkey0⟩ : ∃ k0 : Nat, k0 = i := ⟨i, rfl⟩
        have HAL := As.mk (r4All_any b2 cols z wr HBO.out.rs)
        have HZE : As (∀ x ∈ z, ∃ k, pick x.row cols = some k) := ⟨fun x hx => by have := HBO.out.told.key x hx; rw [HBO.out.hcols] at this; exact this⟩
        have HZN := As.mk HBO.out.zlen
        have hB0 : Below wr.heap.size wr wr := Below.refl _ _
        clear hkey0
        by_cases hlt1 : i < acts.length
        · have hltz : (i : Int) < (acts.length : Int) := by omega
          have hltz2 : ¬ (i : Int) < 100 := by omega
          go_wp2_with (go_at_call 15; refine HAL.out.mono ?_; rintro e w' ⟨A5, c5, rfl, hr5, rfl⟩; have HR5 := As.mk (RdZ.mv hr5 (Stays.any _ _)); clear hr5)
          generalize hwo : wr = wo at *
          clear hwo
          go_loopg [13, 14, 15] 40 (fun g s13 _ _ wr => ∃ (j : Nat), j ≤ 40 ∧ 40 - j ≤ g ∧ s13 = .int .i64 j ∧ As (Below wo.heap.size wo wr))
          case atStart => exact ⟨0, by omega, by omega, by go_num, ⟨hB0⟩⟩
          case round =>
            obtain ⟨j, hj, hgj, rfl, HBW⟩ := hrel
            have hBW := HBW.out
            have hBX : Below w.heap.size w wr := hB.trans (hBW.mono hB.size)
            have HBX := As.mk (HBO.out.ext hBW)
            by_cases hlt : j < z.length ∧ j < 40
            · obtain ⟨hj1, hj2⟩ := hlt
              have hjz : (j : Int) < (z.length : Int) := by omega
              have hjz2 : (j : Int) < 40 := by omega
              obtain ⟨x, hx⟩ : ∃ x, z[j]? = some x := ⟨_, List.getElem?_eq_getElem hj1⟩
              obtain ⟨b1, o1, c', A0, d0, hv, hb1, hxi, hrx, e0, e1⟩ := RdZ.ent (HR5.out.ext hBW) hx
              injection hv with hA _ hcc
              subst hA
              obtain ⟨vc, vz, hh, hvc, _⟩ := HBX.out.rs
              obtain ⟨Bc, cc, rfl, _⟩ := hvc.shape
              obtain ⟨c0, _, _⟩ := cells2 hh
              obtain ⟨q, hq⟩ := HZE.out x (List.mem_of_getElem? hx)
              have HQQ := As.mk hq
              have HP := As.mk (fun W (hE : Below wr.heap.size wr W) => r2Pick_any (.slice A0 x.row.length d0) (.slice Bc cols.length cc) x.row cols W (hrx.ext hE) ((hvc.mv (Stays.any _ _)).ext hE))
              have HXW := As.mk (HBX.out.rw_of (List.mem_of_getElem? hx))
              have HRX := As.mk hrx
              clear hx hrx hcc hh hvc hq hxi
              have hE1 := (Ext.drew (Ext.refl wr)).below
              go_wp2_with fail
              go_region_law (go_simp; go_at_call 22; refine (HP.out _ (by first | exact Below.refl _ _ | exact hE1)).mono ?_; rintro e w3 hpp; obtain ⟨A3, c3, rfl, hr3, hB3⟩ := pick_at HQQ.out hpp; clear hpp)
              all_goals
                have hW3 : Below wr.heap.size wr w3 := hE1.trans (hB3.mono hE1.size)
                have hB13 : Below w.heap.size w w3 := hBX.trans (hW3.mono hBX.size)
                have HBY := As.mk (HBX.out.ext hW3)
                have k0 := (hW3.cell (World.block_lt_of_cell? wr _ e0)).trans e0
                have k1 := (hW3.cell (World.block_lt_of_cell? wr _ e1)).trans e1
                obtain ⟨fl, hfl⟩ : ∃ fl, fl = z.filter fun x => keyIs cols q x.row := ⟨_, rfl⟩
                obtain ⟨wt, hwt⟩ : ∃ wt, wt = rweight z q := ⟨_, rfl⟩
                have HT := As.mk (HBY.out.told4 (v := .slice A3 q.length c3) (key := q) (by omega) (HW.out.below hB13) (hr3.mv (Stays.any _ _)))
                have HT2 := As.mk (HBY.out.told4 (v := .slice A0 x.row.length d0) (key := x.row) (by omega) (HW.out.below hB13) (HRX.out.ext hW3))
                rw [← hfl, ← hwt] at HT
                rw [HXW.out] at HT2
                clear hfl hwt hr3 hB3 HP
                obtain ⟨xr, xw⟩ := x
                simp only at *
                have HW3 := As.mk hW3
                have HX3 := As.mk hBX
                clear e0 e1 c0 hE1 hW3 hBW hBX hB13 hb1
                have hF1 := (Ext.drew (Ext.refl w3)).below
                have hF0 : Below w3.heap.size w3 w3 := Below.refl _ _
                go_wp2_with fail
                go_region_held3 (fun w' => w'.cell? ⟨b1, o1 + j * 2, none⟩ = some (.slice A0 xr.length d0) ∧ w'.cell? ⟨b1, o1 + j * 2 + 1, none⟩ = some (.int .i64 xw)) (first | go_keep | (exact ⟨(Below.cell (by assumption) (World.block_lt_of_cell? w3 _ k0)).trans k0, (Below.cell (by assumption) (World.block_lt_of_cell? w3 _ k1)).trans k1⟩)) (first | (go_at_call 19; refine (HT.out.get _ (by first | assumption | exact hF0 | exact hF1)).mono ?_; rintro e w8 ⟨A8, c8, rfl, hr8, hb8⟩; have HR8 := As.mk hr8; clear hr8) | (go_at_call 20; refine (HT.out.rget _ hb8).mono ?_; rintro e w9 ⟨A9, c9, rfl, hr9, hb89⟩; have hb9 := hb8.trans (hb89.mono hb8.size); have HR89 := As.mk (HR8.out.ext hb89); have HR9 := As.mk hr9; clear hr9 hb89) | (go_at_call 18; (with_reducible refine (HT.out.same _ _ _ _ hb9 HR89.out HR9.out).mono ?_); rintro e w10 ⟨rfl, hb10⟩) | (go_at_call 16; refine (HT2.out.weight _ hb10).mono ?_; rintro e w11 ⟨rfl, hb11⟩))
                all_goals
                  go_wp2_with fail
                  go_roundg (40 - (j + 1))
                  case measure => omega
                  case rel => exact ⟨j + 1, by omega, by omega, by go_num, ⟨HBW.out.trans ((HW3.out.trans (hb11.mono HW3.out.size)).mono HBW.out.size)⟩⟩
            · by_cases hj1 : j < z.length
              · have hjz : (j : Int) < (z.length : Int) := by omega
                have hjz2 : ¬ (j : Int) < 40 := by omega
                go_wp2_with fail
                go_ret
                exact ⟨rfl, hBX⟩
              · have hjz : ¬ (j : Int) < (z.length : Int) := by omega
                go_wp2_with fail
                go_ret
                exact ⟨rfl, hBX⟩
        · have hltz : ¬ (i : Int) < (acts.length : Int) := by omega
          go_wp2_with (go_at_call 15; refine HAL.out.mono ?_; rintro e w' ⟨A5, c5, rfl, hr5, rfl⟩; have HR5 := As.mk (RdZ.mv hr5 (Stays.any _ _)); clear hr5)
          generalize hwo : wr = wo at *
          clear hwo
          go_loopg [13, 14, 15] 40 (fun g s13 _ _ wr => ∃ (j : Nat), j ≤ 40 ∧ 40 - j ≤ g ∧ s13 = .int .i64 j ∧ As (Below wo.heap.size wo wr))
          case atStart => exact ⟨0, by omega, by omega, by go_num, ⟨hB0⟩⟩
          case round =>
            obtain ⟨j, hj, hgj, rfl, HBW⟩ := hrel
            have hBW := HBW.out
            have hBX : Below w.heap.size w wr := hB.trans (hBW.mono hB.size)
            have HBX := As.mk (HBO.out.ext hBW)
            by_cases hlt : j < z.length ∧ j < 40
            · obtain ⟨hj1, hj2⟩ := hlt
              have hjz : (j : Int) < (z.length : Int) := by omega
              have hjz2 : (j : Int) < 40 := by omega
              obtain ⟨x, hx⟩ : ∃ x, z[j]? = some x := ⟨_, List.getElem?_eq_getElem hj1⟩
              obtain ⟨b1, o1, c', A0, d0, hv, hb1, hxi, hrx, e0, e1⟩ := RdZ.ent (HR5.out.ext hBW) hx
              injection hv with hA _ hcc
              subst hA
              obtain ⟨vc, vz, hh, hvc, _⟩ := HBX.out.rs
              obtain ⟨Bc, cc, rfl, _⟩ := hvc.shape
              obtain ⟨c0, _, _⟩ := cells2 hh
              obtain ⟨q, hq⟩ := HZE.out x (List.mem_of_getElem? hx)
              have HQQ := As.mk hq
              have HP := As.mk (fun W (hE : Below wr.heap.size wr W) => r2Pick_any (.slice A0 x.row.length d0) (.slice Bc cols.length cc) x.row cols W (hrx.ext hE) ((hvc.mv (Stays.any _ _)).ext hE))
              have HXW := As.mk (HBX.out.rw_of (List.mem_of_getElem? hx))
              have HRX := As.mk hrx
              clear hx hrx hcc hh hvc hq hxi
              have hE1 := (Ext.drew (Ext.refl wr)).below
              go_wp2_with fail
              go_region_law (go_simp; go_at_call 22; refine (HP.out _ (by first | exact Below.refl _ _ | exact hE1)).mono ?_; rintro e w3 hpp; obtain ⟨A3, c3, rfl, hr3, hB3⟩ := pick_at HQQ.out hpp; clear hpp)
              all_goals
                have hW3 : Below wr.heap.size wr w3 := hE1.trans (hB3.mono hE1.size)
                have hB13 : Below w.heap.size w w3 := hBX.trans (hW3.mono hBX.size)
                have HBY := As.mk (HBX.out.ext hW3)
                have k0 := (hW3.cell (World.block_lt_of_cell? wr _ e0)).trans e0
                have k1 := (hW3.cell (World.block_lt_of_cell? wr _ e1)).trans e1
                obtain ⟨fl, hfl⟩ : ∃ fl, fl = z.filter fun x => keyIs cols q x.row := ⟨_, rfl⟩
                obtain ⟨wt, hwt⟩ : ∃ wt, wt = rweight z q := ⟨_, rfl⟩
                have HT := As.mk (HBY.out.told4 (v := .slice A3 q.length c3) (key := q) (by omega) (HW.out.below hB13) (hr3.mv (Stays.any _ _)))
                have HT2 := As.mk (HBY.out.told4 (v := .slice A0 x.row.length d0) (key := x.row) (by omega) (HW.out.below hB13) (HRX.out.ext hW3))
                rw [← hfl, ← hwt] at HT
                rw [HXW.out] at HT2
                clear hfl hwt hr3 hB3 HP
                obtain ⟨xr, xw⟩ := x
                simp only at *
                have HW3 := As.mk hW3
                have HX3 := As.mk hBX
                clear e0 e1 c0 hE1 hW3 hBW hBX hB13 hb1
                have hF1 := (Ext.drew (Ext.refl w3)).below
                have hF0 : Below w3.heap.size w3 w3 := Below.refl _ _
                go_wp2_with fail
                go_region_held3 (fun w' => w'.cell? ⟨b1, o1 + j * 2, none⟩ = some (.slice A0 xr.length d0) ∧ w'.cell? ⟨b1, o1 + j * 2 + 1, none⟩ = some (.int .i64 xw)) (first | go_keep | (exact ⟨(Below.cell (by assumption) (World.block_lt_of_cell? w3 _ k0)).trans k0, (Below.cell (by assumption) (World.block_lt_of_cell? w3 _ k1)).trans k1⟩)) (first | (go_at_call 19; refine (HT.out.get _ (by first | assumption | exact hF0 | exact hF1)).mono ?_; rintro e w8 ⟨A8, c8, rfl, hr8, hb8⟩; have HR8 := As.mk hr8; clear hr8) | (go_at_call 20; refine (HT.out.rget _ hb8).mono ?_; rintro e w9 ⟨A9, c9, rfl, hr9, hb89⟩; have hb9 := hb8.trans (hb89.mono hb8.size); have HR89 := As.mk (HR8.out.ext hb89); have HR9 := As.mk hr9; clear hr9 hb89) | (go_at_call 18; (with_reducible refine (HT.out.same _ _ _ _ hb9 HR89.out HR9.out).mono ?_); rintro e w10 ⟨rfl, hb10⟩) | (go_at_call 16; refine (HT2.out.weight _ hb10).mono ?_; rintro e w11 ⟨rfl, hb11⟩))
                all_goals
                  go_wp2_with fail
                  go_roundg (40 - (j + 1))
                  case measure => omega
                  case rel => exact ⟨j + 1, by omega, by omega, by go_num, ⟨HBW.out.trans ((HW3.out.trans (hb11.mono HW3.out.size)).mono HBW.out.size)⟩⟩
            · by_cases hj1 : j < z.length
              · have hjz : (j : Int) < (z.length : Int) := by omega
                have hjz2 : ¬ (j : Int) < 40 := by omega
                go_wp2_with fail
                go_ret
                exact ⟨rfl, hBX⟩
              · have hjz : ¬ (j : Int) < (z.length : Int) := by omega
                go_wp2_with fail
                go_ret
                exact ⟨rfl, hBX⟩
end Go.Proofs.YtmpndmjfdijamaaGreatDoor
