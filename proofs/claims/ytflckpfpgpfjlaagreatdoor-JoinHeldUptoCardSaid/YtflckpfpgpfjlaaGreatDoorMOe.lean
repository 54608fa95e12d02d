/- JoinExact: the node of a join, and both sides beside one another. vast for any widths. JoinExact: a step on both sides. JoinExact: a round of both operators at work. -/
import Derived.Test.YtflckpfpgpfjlaaGreatDoorMNz
import Derived.Test.YtflckpfpgpfjlaaGreatDoorMNj
import Derived.Test.YtflckpfpgpfjlaaGreatDoorMKy
import Derived.Test.YtflckpfpgpfjlaaGreatDoorMOpn
set_option linter.unusedVariables false
set_option linter.unusedSimpArgs false
section
namespace Go.Proofs.YtflckpfpgpfjlaaGreatDoor
open Go.RowKit Go.Sort
theorem JRes.rbag {lc rc : List Int} {nl nr : Nat} {a z y : List GE} (h : JRes lc rc nl nr a z y) (ha : WBag nl a) (hz : WBag nr z) (hs : Small lc rc a z) : RBag ((nl + nr : Nat) : Int) y := by
  refine ⟨h.ok, fun x hx => by rw [(h.pair x hx).len], fun x hx => ?_⟩
  have hw := h.ok.at hx
  have h0 := h.ok.w x hx
  obtain ⟨p, q, hp, hq, hpl, hql, he⟩ := h.pair x hx
  have hpt := h.pt p q hp hq hpl hql
  rw [← he, hw] at hpt
  unfold jw at hpt
  split at hpt
  · rename_i hk
    have h1 := (ha.at p).1
    have h2 := (hz.at q).1
    have h3 := Int.mul_nonneg h1 h2
    have h4 := hs.at ha.ok hz.ok p q ((sameR_eq _ _).1 hk)
    omega
  · exact absurd hpt h0
theorem JIn.wroteR {R : Nat → Prop} {b bl br ub gb : Nat} {w w' : World} {lc rc : List Int} {wl wr broken : Int} {SL SR : GS} {cu cg : Array Value} (h : JIn R b bl br w lc rc wl wr broken SL SR) (hw : Wrote (RW ub gb) w w') (hu : w.heap[ub]? = some (.cells cu 100 (0, 0))) (hg : w.heap[gb]? = some (.cells cg 35 (0, 0))) (hd : ∀ k, R k → ¬ RW ub gb k) : JIn R b bl br w' lc rc wl wr broken SL SR := by
  obtain ⟨⟨hb, hbl, hbr, hr⟩, PL, PR, lv, rv, h1, h2, h3, h4, h5, h6, h7, h8, h9⟩ := h
  have hk : ∀ k o, R k → w.heap[k]? = some o → w'.heap[k]? = some o := fun k o hR hh => (hw.block k (Array.getElem?_eq_some_iff.1 hh).1 fun hp => hd k hR hp).trans hh
  have hcols : ∀ n, Stays w w' (Fresh n [3]) (Fresh n [3]) := fun n k t cells fr ho hh => ⟨ho, (hw.block k (Array.getElem?_eq_some_iff.1 hh).1 fun hp => by
    have e : t = 3 := by have := ho.1.2; simpa using this
    subst e
    rcases hp with rfl | rfl
    · exact tags_ne hh hu (by decide)
    · exact tags_ne hh hg (by decide)).trans hh⟩
  have hrow : ∀ P : Nat → Prop, (∀ k, P k → R k) → Stays w w' (RowB P) (RowB P) := fun P hP k t cells fr ho hh => ⟨ho, hk k _ (hP k ho.1.1) hh⟩
  have hsp : ∀ (P : Nat → Prop) (x : Nat) (S : GS), (∀ k, P k → R k) → R x → SpAt P x w S → SpAt P x w' S := fun P x S hP hx hs => by
    obtain ⟨u, bv, g1, g2, g3, g4⟩ := hs
    refine ⟨u, bv, hk x _ hx g1, g2.mv (hcols 0), ?_, g4⟩
    have h5 := g3.imp fun _ _ e => EBt.mv e (hrow P hP)
    obtain ⟨ds, ho, hr, hone, hl⟩ := h5
    refine ⟨ds, ⟨ho.1, ?_⟩, hr, hone, hl⟩
    rcases ho.2 with h6 | ⟨g, cap, cur, hv, hb, hg, hrest⟩
    · exact .inl h6
    · exact .inr ⟨g, cap, cur, hv, hb, hk g _ (hP g (g4 g (by rw [hv]; rfl))) hg, hrest⟩
  exact ⟨⟨hb, hbl, hbr, fun k hk => Nat.lt_of_lt_of_le (hr k hk) hw.size⟩, PL, PR, lv, rv, hk b _ hb h1, h2.mv (hcols 0), h3.mv (hcols 0), hsp PL bl SL h7 hbl h4, hsp PR br SR h8 hbr h5, h6, h7, h8, h9⟩
theorem JSt.wroteR {R : Nat → Prop} {b bl br ub gb : Nat} {w w' : World} {lc rc : List Int} {wl wr broken : Int} {a z : List GE} {cu cg : Array Value} (h : JSt R b bl br w lc rc wl wr broken a z) (hw : Wrote (RW ub gb) w w') (hu : w.heap[ub]? = some (.cells cu 100 (0, 0))) (hg : w.heap[gb]? = some (.cells cg 35 (0, 0))) (hd : ∀ k, R k → ¬ RW ub gb k) : JSt R b bl br w' lc rc wl wr broken a z := let ⟨SL, SR, h1, h2⟩ := h; ⟨SL, SR, h1.wroteR hw hu hg hd, h2⟩
def JoinNL (lc rc : List Int) (nl nr : Nat) (zs : List (List GE)) (k : Int) (y : List GE) : Prop := JoinN lc rc nl nr zs k y ∧ y.length ≤ 4000000
theorem wrote_ib {ub gb : Nat} {w W : World} {cu cg : Array Value} (hW : Wrote (RW ub gb) w W) (hu : w.heap[ub]? = some (.cells cu 100 (0, 0))) (hg : w.heap[gb]? = some (.cells cg 35 (0, 0))) : Stays w W IB IB := fun k t cells fr ho hh => ⟨ho, (hW.block k (Array.getElem?_eq_some_iff.1 hh).1 fun hp => by
    have e : t = 3 := by have := ho.1.2; simpa using this
    subst e
    rcases hp with rfl | rfl
    · exact tags_ne hh hu (by decide)
    · exact tags_ne hh hg (by decide)).trans hh⟩
theorem joinSays {ub gb nl nr : Nat} {at0 at1 : Int} {B1 B2 : Option Addr} {d1 d2 : Nat} {cols others : List Int} {w : World} {a z : List GE} {ds : List (List GE)} {cu cg : Array Value} (h1 : RdI w IB (.slice B1 cols.length d1) cols) (h2 : RdI w IB (.slice B2 others.length d2) others) (hu : w.heap[ub]? = some (.cells cu 100 (0, 0))) (hg : w.heap[gb]? = some (.cells cg 35 (0, 0))) (hcol : Cols2 cols others nl nr) (hl : ∀ da dz, ds = [da, dz] → (a.length + da.length) * (z.length + dz.length) ≤ 4000000) :
    NodeSays ub gb w 5 at0 at1 0 ⟨#[]⟩ false B1 B2 none none none none none cols.length d1 others.length d2 0 0 0 0 0 0 0 0 0 0 [(nl : Int), (nr : Int)] (JoinNL cols others nl nr) [a, z] ds := by
  intro W zs A B n1 n2 p q vk hW hfl hst hzl hrb hA hB hk1 hk2
  obtain ⟨da, dz, rfl, _, _⟩ := fitsD_two (fitsL_two _ _ _ ▸ hfl)
  have hl := hl da dz rfl
  obtain ⟨y0, y1, rfl⟩ : ∃ y0 y1, zs = [y0, y1] := by
    match zs, hzl with
    | [y0, y1], _ => exact ⟨y0, y1, rfl⟩
  have r0 := hrb 0 y0 nl rfl rfl
  have r1 := hrb 1 y1 nr rfl rfl
  have m0 := (hst.at' 0 nl a da y0 rfl rfl rfl rfl).1.length
  have m1 := (hst.at' 1 nr z dz y1 rfl rfl rfl rfl).1.length
  rw [List.length_append] at m0 m1
  have hm := Nat.le_trans (Nat.mul_le_mul m0 m1) hl
  have hI : Stays w W IB IB := fun k t cells fr ho hh => ⟨ho, (hW.block k (Array.getElem?_eq_some_iff.1 hh).1 fun hp => by
    have e : t = 3 := by have := ho.1.2; simpa using this
    subst e
    rcases hp with rfl | rfl
    · exact tags_ne hh hu (by decide)
    · exact tags_ne hh hg (by decide)).trans hh⟩
  obtain rfl := hk1 (by decide)
  refine (r7Node_join at0 at1 0 _ ⟨#[]⟩ false B1 B2 none none none none none A B d1 d2 0 0 0 0 0 0 0 0 0 0 n1 n2 p q cols others nl nr y0 y1 W ((h1.mv hI).mv (Stays.any _ _)) ((h2.mv hI).mv (Stays.any _ _)) hA hB r0.wb r1.wb hcol hm).mono ?_
  rintro e W' ⟨hB', h⟩
  refine ⟨hB', ?_⟩
  rcases h with ⟨hs, rfl⟩ | ⟨hs, A', c', y, rfl, hres, hrd, hyl⟩
  · exact ⟨none, 0, 14, [], rfl, ⟨⟨y0, y1, rfl, .inl ⟨hs, rfl⟩⟩, by simp⟩, fun h => absurd h (by decide), fun _ => rfl⟩
  · exact ⟨A', c', 0, y, rfl, ⟨⟨y0, y1, rfl, .inr ⟨hs, rfl, hres⟩⟩, by omega⟩, fun _ => ⟨hrd.ebk, ⟨_, hres.rbag r0.wb r1.wb hs⟩, by omega⟩, fun h => absurd rfl h⟩
theorem delta_ref {lc rc : List Int} {nl nr : Nat} {a z da dz y0 y1 y s d d2 : List GE} (h : JDelta lc rc nl nr a z da dz d) (hy0 : Made (a ++ da) y0) (hy1 : Made (z ++ dz) y1) (hn : JRes lc rc nl nr y0 y1 y) (ho : JRes lc rc nl nr a z s) (hm : Made (y ++ s.map GE.neg) d2) : d2 = d := by
  have hz : ∀ r, zw d2 r = zw y r - zw s r := fun r => by rw [hm.sum, zw_app, zw_neg']; omega
  refine pair_ext hm.ok h.ok (fun x hx => ?_) h.pair fun p q hp hq hpl hql => ?_
  · have h1 := hm.ok.at hx
    have h2 := hm.ok.w x hx
    rw [hz] at h1
    by_cases h3 : zw y x.row = 0
    · have h4 : zw s x.row ≠ 0 := by omega
      obtain ⟨u, hu, he⟩ := zw_mem h4
      exact he ▸ ho.pair u hu
    · obtain ⟨u, hu, he⟩ := zw_mem h3
      exact he ▸ hn.pair u hu
  · rw [hz, hn.pt p q hp hq hpl hql, ho.pt p q hp hq hpl hql, h.pt p q hp hq hpl hql, hy0.sum, hy1.sum, zw_app, zw_app]
end Go.Proofs.YtflckpfpgpfjlaaGreatDoor
end
section
namespace Go.Proofs.YtflckpfpgpfjlaaGreatDoor
open Go.RowKit Go.Sort
def AnyQ (w : World) (e : Ending) (w' : World) : Prop := (∃ q : Bool, e = .returned (.bool q)) ∧ Ext w w'
set_option maxRecDepth 100000 in
set_option maxHeartbeats 2000000 in
theorem lVast_all (u v : Value) (ws : List Int) (ds : List (List (List GE))) (w : World) (hu : RdI w AnyB u ws) (hv : RdDD w AnyB v ds) :
    Calls Tryz.prog 10 #[u, v] w (AnyQ w) := by
  have mixed := mixed
  by_cases h2 : ws.length = 2
  · obtain ⟨x, y, rfl⟩ : ∃ x y, ws = [x, y] := by
      match ws, h2 with
      | [x, y], _ => exact ⟨x, y, rfl⟩
    by_cases hin : (0 ≤ x ∧ x ≤ 1024) ∧ (0 ≤ y ∧ y ≤ 1024)
    · exact lVast_any u v x y ds w hu hv hin.1 hin.2
    · clear h2
      obtain ⟨b, o, c, rfl, _, _, f0⟩ := RdI.val hu (j := 0) rfl
      obtain ⟨b', o', c', hv', _, _, f1⟩ := RdI.val hu (j := 1) rfl
      injection hv' with hA _ hcc
      injection hA with hA
      injection hA with hA1 hA2 _
      subst hA1 hA2 hcc
      simp only [List.length_cons, List.length_nil, Nat.zero_add, Nat.reduceAdd, Nat.add_zero] at *
      obtain ⟨B, d, rfl, _⟩ := hv.shape
      clear hu hv
      by_cases x1 : x < 0
      · clear hin
        go_enter Tryz.func10, Tryz.ntmps10
        go_wp2_with fail
        go_ret
        exact ⟨⟨_, rfl⟩, Ext.refl _⟩
      · by_cases y1 : y < 0
        · clear hin
          go_enter Tryz.func10, Tryz.ntmps10
          go_wp2_with fail
          go_ret
          exact ⟨⟨_, rfl⟩, Ext.refl _⟩
        · by_cases x2 : 1024 < x
          · clear hin
            go_enter Tryz.func10, Tryz.ntmps10
            go_wp2_with fail
            go_ret
            exact ⟨⟨_, rfl⟩, Ext.refl _⟩
          · have y2 : 1024 < y := by omega
            clear hin
            go_enter Tryz.func10, Tryz.ntmps10
            go_wp2_with fail
            go_ret
            exact ⟨⟨_, rfl⟩, Ext.refl _⟩
  · obtain ⟨A, c, rfl, _⟩ := hu.shape
    obtain ⟨B, d, rfl, _⟩ := hv.shape
    have h2z : ((ws.length : Int) != 2) = true := by simp; omega
    clear hu hv h2
    go_enter Tryz.func10, Tryz.ntmps10
    go_wp2_with fail
    go_ret
    exact ⟨⟨_, rfl⟩, Ext.refl _⟩
end Go.Proofs.YtflckpfpgpfjlaaGreatDoor
end
section
namespace Go.Proofs.YtflckpfpgpfjlaaGreatDoor
open Go.RowKit Go.Sort
theorem BagOk.ofR {n : Nat} {z d y : List GE} (few : d.length ≤ 40) (hf : fitsZ (n : Int) d = true) (hm : Made (z ++ d) y) (hr : RBag (n : Int) y) : BagOk n z d y :=
  ⟨few, fun x hx => by have := (fits_at hf).2 x hx; omega, (fits_at hf).1, hm, hr.w⟩
theorem pair_step {R : Nat → Prop} {b bl br nl nr : Nat} {lc rc : List Int} {a z da dz y0 y1 s : List GE} {w w1 : World} {e1 : Ending} (hcol : Cols2 lc rc nl nr) (ha : WBag nl a) (hz : WBag nr z) (hsm : Small lc rc a z) (hs : JRes lc rc nl nr a z s) (fa : da.length ≤ 40) (fz : dz.length ≤ 40) (hda : ZOk da) (hdz : ZOk dz)
    (hf : fitsD (nl : Int) nr [da, dz] = true) (hJ : StepAny R b bl br lc rc nl nr 0 a z [da, dz] w e1 w1) (hst : Stepped [(nl : Int), (nr : Int)] [a, z] [da, dz] [y0, y1]) :
    WBag nl y0 ∧ WBag nr y1 ∧ y0.length ≤ a.length + 40 ∧ y1.length ≤ z.length + 40 ∧
    (¬ Small lc rc y0 y1 → e1 = .returned (.tuple #[.slice none 0 0, .int .i64 14]) ∧ JMut R w w1 ∧ JSt (Since R w.heap.size w1.heap.size) b bl br w1 lc rc nl nr 14 y0 y1) ∧
    (Small lc rc y0 y1 → ∀ y d2, JRes lc rc nl nr y0 y1 y → Made (y ++ s.map GE.neg) d2 → ∃ v, e1 = .returned (.tuple #[v, .int .i64 0]) ∧ RdZ2 w1 w.heap.size v d2 ∧ JMut R w w1 ∧ JSt (Since R w.heap.size w1.heap.size) b bl br w1 lc rc nl nr 0 y0 y1) := by
  have hf2 : fitsZ (nl : Int) da = true ∧ fitsZ (nr : Int) dz = true := by
    obtain ⟨x, y, he, h1, h2⟩ := fitsD_two hf
    injection he with e1 e2
    injection e2 with e2 _
    subst e1 e2
    exact ⟨h1, h2⟩
  obtain ⟨m0, r0⟩ := hst.at' 0 nl a da y0 rfl rfl rfl rfl
  obtain ⟨m1, r1⟩ := hst.at' 1 nr z dz y1 rfl rfl rfl rfl
  have b0 := BagOk.ofR fa hf2.1 m0 r0
  have b1 := BagOk.ofR fz hf2.2 m1 r1
  have l0 := m0.length
  have l1 := m1.length
  rw [List.length_append] at l0 l1
  have hfit := JFit.of hcol ha hz b0 b1 hda hdz
  have hold : ∀ p q, RowOk p → RowOk q → p.length = nl → q.length = nr → keyOf lc p = keyOf rc q → zw a p * zw z q ≤ 1099511627776 := fun p q _ _ _ _ hk => hsm.at ha.ok hz.ok p q hk
  have hsv := small_vast (lc := lc) (rc := rc) ha hz b0 b1
  refine ⟨b0.bag ha, b1.bag hz, by omega, by omega, fun hn => ?_, fun hn y d2 hy hm => ?_⟩
  · have hv : Vast lc rc nl nr a z da dz := by
      by_cases hv : Vast lc rc nl nr a z da dz
      · exact hv
      · exact absurd (hsv.2 hv) hn
    obtain ⟨he, hmut, a', z', hj, s0, s1⟩ := hJ.vast hfit hold hv b0.sd b1.sd
    exact ⟨he, hmut, hj.one s0 s1 m0 m1⟩
  · have hok : JOk lc rc nl nr a z da dz := ⟨hfit, hold, fun p q _ _ _ _ hk => by
      rw [← b0.at, ← b1.at]
      exact hn.at (b0.bag ha).ok (b1.bag hz).ok p q hk⟩
    obtain ⟨v, d, he, hd, hr, hmut, a', z', hj, s0, s1, _⟩ := hJ.ok hok hcol.wide b0.sd b1.sd
    have hdd := delta_ref hd m0 m1 hy hs hm
    subst hdd
    exact ⟨v, he, hr, hmut, hj.one s0 s1 m0 m1⟩
def LiveX (nl nr : Nat) (lc rc : List Int) (base b bl br ub gb : Nat) (at0 at1 : Int) (B1 B2 : Option Addr) (d1 d2 i : Nat) (n : Nat) (W : World) : Prop :=
  ∃ (R : Nat → Prop) (a z s : List GE), JSt R b bl br W lc rc nl nr 0 a z ∧ ROp base ub gb W (JNd at0 at1 B1 B2 d1 d2 lc rc) [(nl : Int), (nr : Int)] [a, z] s 0 ∧ JRes lc rc nl nr a z s ∧ Small lc rc a z ∧ WBag nl a ∧ WBag nr z ∧
    a.length ≤ 40 * i ∧ z.length ≤ 40 * i ∧ RBag ((nl + nr : Nat) : Int) s ∧ s.length ≤ 1073741824 ∧ (∀ k, R k → ¬ RW ub gb k) ∧ (∀ k, R k → n ≤ k) ∧ RdI W IB (.slice B1 lc.length d1) lc ∧ RdI W IB (.slice B2 rc.length d2) rc
def DeadX (nl nr : Nat) (lc rc : List Int) (base b bl br ub gb : Nat) (at0 at1 : Int) (B1 B2 : Option Addr) (d1 d2 i : Nat) (n : Nat) (W : World) : Prop :=
  ∃ (R : Nat → Prop) (a z s : List GE), JSt R b bl br W lc rc nl nr 14 a z ∧ ROp base ub gb W (JNd at0 at1 B1 B2 d1 d2 lc rc) [(nl : Int), (nr : Int)] [a, z] s 14 ∧ WBag nl a ∧ WBag nr z ∧
    a.length ≤ 40 * i ∧ z.length ≤ 40 * i ∧ RBag ((nl + nr : Nat) : Int) s ∧ s.length ≤ 1073741824 ∧ (∀ k, R k → ¬ RW ub gb k) ∧ (∀ k, R k → n ≤ k) ∧ RdI W IB (.slice B1 lc.length d1) lc ∧ RdI W IB (.slice B2 rc.length d2) rc
end Go.Proofs.YtflckpfpgpfjlaaGreatDoor
end
section
namespace Go.Proofs.YtflckpfpgpfjlaaGreatDoor
open Go.RowKit Go.Sort
theorem JMut.belowN {R : Nat → Prop} {w w' : World} {n : Nat} (h : JMut R w w') (hr : ∀ k, R k → n ≤ k) (hn : n ≤ w.heap.size) : Below n w w' :=
  ⟨h.os, h.tape, h.output, h.size, fun k hk => by
    have hl : k < w.heap.size := by omega
    exact (h.block k _ (Array.getElem?_eq_getElem hl) (.inl fun hR => by have := hr k hR; omega)).trans (Array.getElem?_eq_getElem hl).symm⟩
theorem ROp.typed {base ub gb : Nat} {w : World} {nd : List Value} {ws : List Int} {bags : List (List GE)} {s : List GE} {broken : Int} (h : ROp base ub gb w nd ws bags s broken) (hn : 0 < ws.length) : (∃ cu, w.heap[ub]? = some (.cells cu 100 (0, 0))) ∧ ∃ cg, w.heap[gb]? = some (.cells cg 35 (0, 0)) :=
  let ⟨_, _, _, _, _, _, h⟩ := h; ⟨⟨_, h.2.2.2.1⟩, (h.bagsAt hn).2⟩
theorem wrote_any {ub gb : Nat} {w w' : World} {v : Value} {d : List GE} {cu cg : Array Value} {lo : Nat} (h : RdZ2 w lo v d) (hw : Wrote (RW ub gb) w w') (hu : w.heap[ub]? = some (.cells cu 100 (0, 0))) (hg : w.heap[gb]? = some (.cells cg 35 (0, 0))) : RdZ w' AnyB v d :=
  (h.ebk.mv (ok' := EBk) fun k t cells fr ho hh => ⟨ho, (hw.block k (Array.getElem?_eq_some_iff.1 hh).1 fun hp => by
    have e : t = 96 ∨ t = 66 := by have := ho.1.2; simpa using this
    rcases hp with rfl | rfl
    · have e2 := tag_eq hu hh
      subst e2
      rcases e with e | e <;> exact absurd e (by decide)
    · have e2 := tag_eq hg hh
      subst e2
      rcases e with e | e <;> exact absurd e (by decide)).trans hh⟩).mv (Stays.any _ _)
def StepsX (nl nr : Nat) (lc rc : List Int) (base b bl br ub gb : Nat) (at0 at1 : Int) (B1 B2 : Option Addr) (d1 d2 i n : Nat) (v : Value) (W W1 : World) (k : Int) (v1 : Value) : Prop :=
  Below n W W1 ∧ Calls Tryz.prog 23 #[.pointer (some ⟨ub, 0, none⟩), v] W1 fun e W2 => Below n W W2 ∧ ∃ (v2 : Value) (k2 : Int) (q : Bool), e = .returned (.tuple #[v2, .int .i64 k2, .bool q]) ∧
    (q = true → k2 = k ∧ ∃ d, RdZ W2 AnyB v1 d ∧ RdZ W2 AnyB v2 d ∧ (LiveX nl nr lc rc base b bl br ub gb at0 at1 B1 B2 d1 d2 (i + 1) n W2 ∨ DeadX nl nr lc rc base b bl br ub gb at0 at1 B1 B2 d1 d2 (i + 1) n W2 ∧ k ≠ 0))
set_option maxHeartbeats 2000000 in
theorem live_calls {nl nr : Nat} {lc rc : List Int} {base b bl br ub gb : Nat} {at0 at1 : Int} {B1 B2 : Option Addr} {d1 d2 i n : Nat} {W : World} (hcol : Cols2 lc rc nl nr) (hL : LiveX nl nr lc rc base b bl br ub gb at0 at1 B1 B2 d1 d2 i n W) (hi : i < 40) (hgw : GW W) (hml : 0 < n) (hn : n ≤ base) (hbg : n ≤ ub ∧ n ≤ gb ∧ base ≤ gb) (hbw : base ≤ W.heap.size)
    (ds : List (List GE)) (v : Value) (hv : RdD W (Old n) v ds) (hok : ∀ d ∈ ds, zsound d = true → ZOk d) (hmu : ∀ d ∈ ds, d.length ≤ 40) :
    Calls Tryz.prog 13 #[.pointer (some ⟨b, 0, none⟩), v] W fun e W1 => ∃ (v1 : Value) (k : Int), e = .returned (.tuple #[v1, .int .i64 k]) ∧ StepsX nl nr lc rc base b bl br ub gb at0 at1 B1 B2 d1 d2 i n v W W1 k v1 := by
  obtain ⟨R, a, z, s, hJ, hR, hres, hsm, wa, wz, la, lz, rbs, hsl, hap, hRn, hr1, hr2⟩ := hL
  have hlen : ∀ da dz, ds = [da, dz] → (a.length + da.length) * (z.length + dz.length) ≤ 4000000 ∧ a.length + da.length ≤ 1640 ∧ z.length + dz.length ≤ 1640 := fun da dz he => by
    subst he
    have h1 := hmu da (by simp)
    have h2 := hmu dz (by simp)
    have h3 : (a.length + da.length) * (z.length + dz.length) ≤ 1640 * 1640 := Nat.mul_le_mul (by omega) (by omega)
    omega
  have hsafe : RdD W (Safe R) v ds := RdD.mv hv fun k t cells fr ho hh => ⟨⟨.inl fun h => by have h1 := hRn k h; have h2 : k < n := ho.1; omega, .inr (.inl fun h => by have h1 := hRn k h; have h2 : k < n := ho.1; omega)⟩, hh⟩
  refine (jStep_any R b bl br lc rc nl nr 0 a z ds v W hgw hJ hsafe (fun h => by have := hRn _ h; omega) (fun da dz he => by have := hlen da dz he; omega)).mono ?_
  intro e1 W1 hS
  have hub : ub < W.heap.size := by
    obtain ⟨⟨cu, h⟩, _⟩ := hR.typed (by simp)
    exact (Array.getElem?_eq_some_iff.1 h).1
  obtain ⟨v1, k1, he1, hJm⟩ : ∃ (v1 : Value) (k1 : Int), e1 = .returned (.tuple #[v1, .int .i64 k1]) ∧ JMut R W W1 := by
    have hS := hS
    unfold StepAny at hS
    split at hS
    · exact ⟨_, _, hS.1, JMut.of R hS.2.below⟩
    · split at hS
      · exact ⟨_, _, hS.1, JMut.of R hS.2.below⟩
      · obtain ⟨da, dz, _, hS⟩ := hS
        unfold StepPost at hS
        split at hS
        · exact ⟨_, _, hS.1, hS.2.1⟩
        · obtain ⟨v, d, m, he, _, _, h3, h4, hmut, _⟩ := hS
          exact ⟨_, _, he, hmut⟩
  subst he1
  have hR1 := hR.jmut hJm
  obtain ⟨⟨cu, hu⟩, ⟨cg, hg⟩⟩ := hR1.typed (by simp)
  have hr1' := hr1.mv (hJm.stays ib_not)
  have hr2' := hr2.mv (hJm.stays ib_not)
  have hN := joinSays hr1' hr2' hu hg hcol (a := a) (z := z) (ds := ds) (at0 := at0) (at1 := at1) fun da dz he => (hlen da dz he).1
  have hB01 : Below n W W1 := hJm.belowN hRn (by omega)
  have hvo : RdD W1 (Old base) v ds := RdD.mv hv fun k t cells fr ho hh => by
    have h2 : k < n := ho.1
    exact ⟨⟨by show k < base; omega, .inr (by show k < base; omega)⟩, hJm.block k _ hh (.inl fun h => by have := hRn k h; omega)⟩
  have ra : RBag (nl : Int) a := ⟨wa.ok, fun x hx => by have := wa.len x hx; omega, wa.w⟩
  have rz : RBag (nr : Int) z := ⟨wz.ok, fun x hx => by have := wz.len x hx; omega, wz.w⟩
  have hC := r8Step_any base ub gb 5 at0 at1 0 ⟨#[]⟩ false B1 B2 none none none none none lc.length d1 rc.length d2 0 0 0 0 0 0 0 0 0 0 [(nl : Int), (nr : Int)] (JoinNL lc rc nl nr) [a, z] s 0 ds v W1 hR1 ⟨Nat.le_trans hbw hJm.size, hbg.2.2⟩ hvo (fun i z' n' h1 h2 => by
    match i, h1, h2 with
    | 0, h1, h2 => injection h1 with h1; injection h2 with h2; subst h1 h2; exact ra
    | 1, h1, h2 => injection h1 with h1; injection h2 with h2; subst h1 h2; exact rz
    | _ + 2, h1, _ => cases h1) ⟨_, rbs⟩ hsl (fun z' hz d hd => by
      have h1 := hmu d hd
      rcases List.mem_cons.1 hz with rfl | hz
      · omega
      · rw [List.mem_singleton.1 hz]; omega) hN (by simp) rfl
  refine ⟨v1, k1, rfl, hB01, hC.mono ?_⟩
  intro e2 W2 h2
  have hgb : gb < W.heap.size := by
    obtain ⟨_, ⟨cg, h⟩⟩ := hR.typed (by simp)
    exact (Array.getElem?_eq_some_iff.1 h).1
  have hfd : fitsL [(nl : Int), (nr : Int)] ds = fitsD nl nr ds := fitsL_two _ _ _
  have hs01 := hJm.size
  unfold RStepPost at h2
  cases hf : fitsD (nl : Int) nr ds with
  | false =>
    rw [hfd, hf, if_pos rfl] at h2
    obtain ⟨rfl, hE2⟩ := h2
    unfold StepAny at hS
    rw [hf, if_pos rfl] at hS
    obtain ⟨he1, hE1⟩ := hS
    obtain ⟨rfl, rfl⟩ : v1 = .slice none 0 0 ∧ k1 = 1 := by simpa using he1
    have hBB := hE1.below.trans (hE2.below.mono hE1.size)
    exact ⟨hB01.trans (hE2.below.mono (by omega)), _, 1, true, rfl, fun _ => ⟨rfl, [], RdL.nil _ _ _ _, RdL.nil _ _ _ _, .inl ⟨R, a, z, s, hJ.ext hBB, hR.ext hBB, hres, hsm, wa, wz, by omega, by omega, rbs, hsl, hap, hRn, hr1.ext hBB, hr2.ext hBB⟩⟩⟩
  | true =>
    rw [hfd, hf, if_neg (by decide), if_neg (by decide)] at h2
    obtain ⟨hW2, h2⟩ := h2
    have hB02 : Below n W W2 := hB01.trans (hW2.below (fun k hk => by rcases hk with rfl | rfl <;> omega) (by omega))
    rcases h2 with rfl | ⟨bags2, k, y, hst, ⟨⟨y0, y1, rfl, hN2⟩, hyl⟩, h2⟩
    · exact ⟨hB02, _, 0, false, rfl, fun h => by cases h⟩
    · obtain ⟨da, dz, rfl, fda, fdz⟩ := fitsD_two hf
      obtain ⟨w0, w1, m0, m1, hbad, hgood⟩ := pair_step hcol wa wz hsm hres (hmu da (by simp)) (hmu dz (by simp)) (hok da (by simp) (fits_at fda).1) (hok dz (by simp) (fits_at fdz).1) hf hS hst
      have hnr : ∀ k, Since R W.heap.size W1.heap.size k → ¬ RW ub gb k := by
        rintro k (h | h) hk
        · exact hap k h hk
        · rcases hk with rfl | rfl <;> omega
      have hsn : ∀ k, Since R W.heap.size W1.heap.size k → n ≤ k := by
        rintro k (h | h)
        · exact hRn k h
        · omega
      rcases hN2 with ⟨hns, rfl⟩ | ⟨hsm2, rfl, hres2⟩
      · obtain ⟨he1, hmut, hj⟩ := hbad hns
        obtain ⟨rfl, rfl⟩ : v1 = .slice none 0 0 ∧ k1 = 14 := by simpa using he1
        rcases h2 with ⟨_, rfl, hop⟩ | ⟨h, _⟩
        · exact ⟨hB02, _, 14, true, rfl, fun _ => ⟨rfl, [], RdL.nil _ _ _ _, RdL.nil _ _ _ _, .inr ⟨⟨_, y0, y1, s, hj.wroteR hW2 hu hg hnr, hop, w0, w1, by omega, by omega, rbs, hsl, hnr, hsn, hr1'.mv (wrote_ib hW2 hu hg), hr2'.mv (wrote_ib hW2 hu hg)⟩, by decide⟩⟩⟩
        · exact absurd h (by decide)
      · rcases h2 with ⟨h, _⟩ | ⟨_, A, c, d, rfl, hm, hrd, hop⟩
        · exact absurd rfl h
        · obtain ⟨v', he1, hrv, hmut, hj⟩ := hgood hsm2 y d hres2 hm
          obtain ⟨rfl, rfl⟩ : v1 = v' ∧ k1 = 0 := by simpa using he1
          exact ⟨hB02, _, 0, true, rfl, fun _ => ⟨rfl, d, wrote_any hrv hW2 hu hg, hrd.mv (Stays.any _ _), .inl ⟨_, y0, y1, y, hj.wroteR hW2 hu hg hnr, hop, hres2, hsm2, w0, w1, by omega, by omega, hres2.rbag w0 w1 hsm2, by omega, hnr, hsn, hr1'.mv (wrote_ib hW2 hu hg), hr2'.mv (wrote_ib hW2 hu hg)⟩⟩⟩
set_option maxHeartbeats 2000000 in
theorem dead_calls {nl nr : Nat} {lc rc : List Int} {base b bl br ub gb : Nat} {at0 at1 : Int} {B1 B2 : Option Addr} {d1 d2 i n : Nat} {W : World} (hcol : Cols2 lc rc nl nr) (hL : DeadX nl nr lc rc base b bl br ub gb at0 at1 B1 B2 d1 d2 i n W) (hi : i < 40) (hgw : GW W) (hml : 0 < n) (hn : n ≤ base) (hbg : n ≤ ub ∧ n ≤ gb ∧ base ≤ gb) (hbw : base ≤ W.heap.size)
    (ds : List (List GE)) (v : Value) (hv : RdD W (Old n) v ds) (hok : ∀ d ∈ ds, zsound d = true → ZOk d) (hmu : ∀ d ∈ ds, d.length ≤ 40) :
    Calls Tryz.prog 13 #[.pointer (some ⟨b, 0, none⟩), v] W fun e W1 => ∃ (v1 : Value) (k : Int), e = .returned (.tuple #[v1, .int .i64 k]) ∧ StepsX nl nr lc rc base b bl br ub gb at0 at1 B1 B2 d1 d2 i n v W W1 k v1 := by
  obtain ⟨R, a, z, s, hJ, hR, wa, wz, la, lz, rbs, hsl, hap, hRn, hr1, hr2⟩ := hL
  have hlen : ∀ da dz, ds = [da, dz] → (a.length + da.length) * (z.length + dz.length) ≤ 4000000 ∧ a.length + da.length ≤ 1640 ∧ z.length + dz.length ≤ 1640 := fun da dz he => by
    subst he
    have h1 := hmu da (by simp)
    have h2 := hmu dz (by simp)
    have h3 : (a.length + da.length) * (z.length + dz.length) ≤ 1640 * 1640 := Nat.mul_le_mul (by omega) (by omega)
    omega
  have hsafe : RdD W (Safe R) v ds := RdD.mv hv fun k t cells fr ho hh => ⟨⟨.inl fun h => by have h1 := hRn k h; have h2 : k < n := ho.1; omega, .inr (.inl fun h => by have h1 := hRn k h; have h2 : k < n := ho.1; omega)⟩, hh⟩
  refine (jStep_any R b bl br lc rc nl nr 14 a z ds v W hgw hJ hsafe (fun h => by have := hRn _ h; omega) (fun da dz he => by have := hlen da dz he; omega)).mono ?_
  intro e1 W1 hS
  have hub : ub < W.heap.size := by
    obtain ⟨⟨cu, h⟩, _⟩ := hR.typed (by simp)
    exact (Array.getElem?_eq_some_iff.1 h).1
  obtain ⟨v1, k1, he1, hJm⟩ : ∃ (v1 : Value) (k1 : Int), e1 = .returned (.tuple #[v1, .int .i64 k1]) ∧ JMut R W W1 := by
    have hS := hS
    unfold StepAny at hS
    split at hS
    · exact ⟨_, _, hS.1, JMut.of R hS.2.below⟩
    · split at hS
      · exact ⟨_, _, hS.1, JMut.of R hS.2.below⟩
      · obtain ⟨da, dz, _, hS⟩ := hS
        unfold StepPost at hS
        split at hS
        · exact ⟨_, _, hS.1, hS.2.1⟩
        · obtain ⟨v, d, m, he, _, _, h3, h4, hmut, _⟩ := hS
          exact ⟨_, _, he, hmut⟩
  subst he1
  have hR1 := hR.jmut hJm
  obtain ⟨⟨cu, hu⟩, ⟨cg, hg⟩⟩ := hR1.typed (by simp)
  have hr1' := hr1.mv (hJm.stays ib_not)
  have hr2' := hr2.mv (hJm.stays ib_not)
  have hN := joinSays hr1' hr2' hu hg hcol (a := a) (z := z) (ds := ds) (at0 := at0) (at1 := at1) fun da dz he => (hlen da dz he).1
  have hB01 : Below n W W1 := hJm.belowN hRn (by omega)
  have hvo : RdD W1 (Old base) v ds := RdD.mv hv fun k t cells fr ho hh => by
    have h2 : k < n := ho.1
    exact ⟨⟨by show k < base; omega, .inr (by show k < base; omega)⟩, hJm.block k _ hh (.inl fun h => by have := hRn k h; omega)⟩
  have ra : RBag (nl : Int) a := ⟨wa.ok, fun x hx => by have := wa.len x hx; omega, wa.w⟩
  have rz : RBag (nr : Int) z := ⟨wz.ok, fun x hx => by have := wz.len x hx; omega, wz.w⟩
  have hC := r8Step_any base ub gb 5 at0 at1 0 ⟨#[]⟩ false B1 B2 none none none none none lc.length d1 rc.length d2 0 0 0 0 0 0 0 0 0 0 [(nl : Int), (nr : Int)] (JoinNL lc rc nl nr) [a, z] s 14 ds v W1 hR1 ⟨Nat.le_trans hbw hJm.size, hbg.2.2⟩ hvo (fun i z' n' h1 h2 => by
    match i, h1, h2 with
    | 0, h1, h2 => injection h1 with h1; injection h2 with h2; subst h1 h2; exact ra
    | 1, h1, h2 => injection h1 with h1; injection h2 with h2; subst h1 h2; exact rz
    | _ + 2, h1, _ => cases h1) ⟨_, rbs⟩ hsl (fun z' hz d hd => by
      have h1 := hmu d hd
      rcases List.mem_cons.1 hz with rfl | hz
      · omega
      · rw [List.mem_singleton.1 hz]; omega) hN (by simp) rfl
  refine ⟨v1, k1, rfl, hB01, hC.mono ?_⟩
  intro e2 W2 h2
  have hgb : gb < W.heap.size := by
    obtain ⟨_, ⟨cg, h⟩⟩ := hR.typed (by simp)
    exact (Array.getElem?_eq_some_iff.1 h).1
  have hfd : fitsL [(nl : Int), (nr : Int)] ds = fitsD nl nr ds := fitsL_two _ _ _
  have hs01 := hJm.size
  unfold RStepPost at h2
  unfold StepAny at hS
  cases hf : fitsD (nl : Int) nr ds with
  | false =>
    rw [hfd, hf, if_pos rfl] at h2
    obtain ⟨rfl, hE2⟩ := h2
    rw [hf, if_pos rfl] at hS
    obtain ⟨he1, hE1⟩ := hS
    obtain ⟨rfl, rfl⟩ : v1 = .slice none 0 0 ∧ k1 = 1 := by simpa using he1
    have hBB := hE1.below.trans (hE2.below.mono hE1.size)
    exact ⟨hB01.trans (hE2.below.mono (by omega)), _, 1, true, rfl, fun _ => ⟨rfl, [], RdL.nil _ _ _ _, RdL.nil _ _ _ _, .inr ⟨⟨R, a, z, s, hJ.ext hBB, hR.ext hBB, wa, wz, by omega, by omega, rbs, hsl, hap, hRn, hr1.ext hBB, hr2.ext hBB⟩, by decide⟩⟩⟩
  | true =>
    rw [hfd, hf, if_neg (by decide), if_pos (by decide)] at h2
    obtain ⟨rfl, hE2⟩ := h2
    rw [hf, if_neg (by decide), if_pos (by decide)] at hS
    obtain ⟨he1, hE1⟩ := hS
    obtain ⟨rfl, rfl⟩ : v1 = .slice none 0 0 ∧ k1 = 14 := by simpa using he1
    have hBB := hE1.below.trans (hE2.below.mono hE1.size)
    exact ⟨hB01.trans (hE2.below.mono (by omega)), _, 14, true, rfl, fun _ => ⟨rfl, [], RdL.nil _ _ _ _, RdL.nil _ _ _ _, .inr ⟨⟨R, a, z, s, hJ.ext hBB, hR.ext hBB, wa, wz, by omega, by omega, rbs, hsl, hap, hRn, hr1.ext hBB, hr2.ext hBB⟩, by decide⟩⟩⟩
set_option maxHeartbeats 2000000 in
theorem both_calls {nl nr : Nat} {lc rc : List Int} {base b bl br ub gb : Nat} {at0 at1 : Int} {B1 B2 : Option Addr} {d1 d2 i n : Nat} {W : World} (hcol : Cols2 lc rc nl nr) (hL : LiveX nl nr lc rc base b bl br ub gb at0 at1 B1 B2 d1 d2 i n W ∨ DeadX nl nr lc rc base b bl br ub gb at0 at1 B1 B2 d1 d2 i n W) (hi : i < 40) (hgw : GW W) (hml : 0 < n) (hn : n ≤ base) (hbg : n ≤ ub ∧ n ≤ gb ∧ base ≤ gb) (hbw : base ≤ W.heap.size)
    (ds : List (List GE)) (v : Value) (hv : RdD W (Old n) v ds) (hmu : ∀ d ∈ ds, d.length ≤ 40) :
    Calls Tryz.prog 13 #[.pointer (some ⟨b, 0, none⟩), v] W fun e W1 => ∃ (v1 : Value) (k : Int), e = .returned (.tuple #[v1, .int .i64 k]) ∧ StepsX nl nr lc rc base b bl br ub gb at0 at1 B1 B2 d1 d2 i n v W W1 k v1 := by
  have hok : ∀ d ∈ ds, zsound d = true → ZOk d := fun d hd hs => by
    obtain ⟨j, hj, rfl⟩ := List.mem_iff_getElem.1 hd
    obtain ⟨_, _, _, _, _, _, _, hr, _⟩ := RdD.delta hv (List.getElem?_eq_getElem hj)
    exact (zsound_ok hs hr.vals).1
  rcases hL with hL | hL
  · exact live_calls hcol hL hi hgw hml hn hbg hbw ds v hv hok hmu
  · exact dead_calls hcol hL hi hgw hml hn hbg hbw ds v hv hok hmu
theorem LiveX.ext {nl nr : Nat} {lc rc : List Int} {base b bl br ub gb : Nat} {at0 at1 : Int} {B1 B2 : Option Addr} {d1 d2 i n : Nat} {W W' : World} (h : LiveX nl nr lc rc base b bl br ub gb at0 at1 B1 B2 d1 d2 i n W) (hb : Below W.heap.size W W') : LiveX nl nr lc rc base b bl br ub gb at0 at1 B1 B2 d1 d2 i n W' :=
  let ⟨R, a, z, s, h1, h2, h3, h4, h5, h6, h7, h8, h9, h10, h11, h12, h13, h14⟩ := h; ⟨R, a, z, s, h1.ext hb, h2.ext hb, h3, h4, h5, h6, h7, h8, h9, h10, h11, h12, h13.ext hb, h14.ext hb⟩
theorem DeadX.ext {nl nr : Nat} {lc rc : List Int} {base b bl br ub gb : Nat} {at0 at1 : Int} {B1 B2 : Option Addr} {d1 d2 i n : Nat} {W W' : World} (h : DeadX nl nr lc rc base b bl br ub gb at0 at1 B1 B2 d1 d2 i n W) (hb : Below W.heap.size W W') : DeadX nl nr lc rc base b bl br ub gb at0 at1 B1 B2 d1 d2 i n W' :=
  let ⟨R, a, z, s, h1, h2, h5, h6, h7, h8, h9, h10, h11, h12, h13, h14⟩ := h; ⟨R, a, z, s, h1.ext hb, h2.ext hb, h5, h6, h7, h8, h9, h10, h11, h12, h13.ext hb, h14.ext hb⟩
end Go.Proofs.YtflckpfpgpfjlaaGreatDoor
end
