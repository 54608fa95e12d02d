/- A join's Step: the contracts of its callees hold. A join's Step, of any changes and any operator. A join's Step whole: its contract. What a join's Step answers, told by the plain law. -/
import Derived.Test.YtflckpfpgpfjlaaGreatDoorMJsp
import Derived.Test.YtflckpfpgpfjlaaGreatDoorMJmw
import Derived.Test.YtflckpfpgpfjlaaGreatDoorMJsr
import Derived.Test.YtflckpfpgpfjlaaGreatDoorMOpn
import Derived.BigQuiet
import Derived.Test.YtflckpfpgpfjlaaGreatDoorMJst
import Derived.Test.YtflckpfpgpfjlaaGreatDoorMJa
set_option linter.unusedVariables false
set_option linter.unusedSimpArgs false
section
namespace Go.Proofs.YtflckpfpgpfjlaaGreatDoor
open Go.RowKit Go.Sort
theorem JC.of {PL PR : Nat → Prop} {w : World} {bl br : Nat} {lv rv dav dzv : Value} {wl wr : Int} {lc rc : List Int} {a z da dz : List GE} {SL SR : GS} (hw : GW w) (hlv : RdI w AnyB lv lc) (hrv : RdI w AnyB rv rc) (hL : SpAt PL bl w SL) (hR : SpAt PR br w SR) (bL : Bag SL lc a) (bR : Bag SR rc z) (hda : RdZ w AnyB dav da) (hdz : RdZ w AnyB dzv dz) (sa : zsound da = true) (sz : zsound dz = true) (na : a.length ≤ 2147483640) (nz : z.length + dz.length ≤ 2147483640) : JC w bl br lv rv dav dzv wl wr lc rc a z da dz where
  wtL W r A c hB hv := bagWeight' PL bl SL lc a _ r W (hw.below hB) hv (hL.ext hB) bL
  wtR W r A c hB hv := bagWeight' PR br SR rc z _ r W (hw.below hB) hv (hR.ext hB) bR
  get W key A c hB hk hv := bagGet PL bl SL lc a _ key W (hw.below hB) hv hk (hL.ext hB) bL na
  keyL W r A c hB hv := jKey_any lv _ wl _ lc r W (hlv.ext hB) hv
  keyR W r A c hB hv := jKey_any rv _ wr _ rc r W (hrv.ext hB) hv
  met W key A c hB hk hv := jMet_any w.heap.size rv dzv wr br rc z dz A c key W (hrv.ext hB) hv hB.size ((RdZ.mv hdz (Stays.widen fun k t hk _ => .inl hk)).ext hB) (by omega)
    (fun W2 hB2 => bagGet PR br SR rc z _ key W2 ((hw.below hB).below (hB2.mono (Nat.le_refl _))) (hv.ext hB2) hk ((hR.ext hB).ext hB2) bR (by omega))
    (fun W2 A2 c2 r hB2 hr2 => bagWeight' PR br SR rc z _ r W2 ((hw.below hB).below hB2) hr2 ((hR.ext hB).ext hB2) bR) sz
    (fun r A2 c2 W2 hB2 hr2 => by rw [← zWt_eq sz]; exact zWeight_any dzv dz A2 c2 r W2 ((hdz.ext hB).ext hB2) hr2)
  zwt W r A c hB hv := by rw [← zWt_eq sa]; exact zWeight_any dav da A c r W (hda.ext hB) hv
end Go.Proofs.YtflckpfpgpfjlaaGreatDoor
end
section
namespace Go.Proofs.YtflckpfpgpfjlaaGreatDoor
open Go.RowKit Go.Sort
def fitsD (nl nr : Int) : List (List GE) → Bool
  | [da, dz] => fitsZ nl da && fitsZ nr dz
  | _ => false
def StepAny (R : Nat → Prop) (b bl br : Nat) (lc rc : List Int) (nl nr broken : Int) (a z : List GE) (ds : List (List GE)) (w : World) (e : Ending) (w' : World) : Prop :=
  if fitsD nl nr ds = false then e = .returned (.tuple #[.slice none 0 0, .int .i64 1]) ∧ Ext w w'
  else if broken ≠ 0 then e = .returned (.tuple #[.slice none 0 0, .int .i64 broken]) ∧ Ext w w'
  else ∃ da dz, ds = [da, dz] ∧ StepPost R b bl br lc rc nl nr a z da dz w e w'
theorem fitsD_two {nl nr : Int} {ds : List (List GE)} (h : fitsD nl nr ds = true) : ∃ da dz, ds = [da, dz] ∧ fitsZ nl da = true ∧ fitsZ nr dz = true := by
  unfold fitsD at h
  split at h
  · rw [Bool.and_eq_true] at h
    exact ⟨_, _, rfl, h⟩
  · cases h
set_option maxRecDepth 100000 in
set_option maxHeartbeats 2000000 in
theorem jStep_len (b : Nat) (A : Option Addr) (n c : Nat) (w : World) (hn : n ≤ 4294967296) (h2 : n ≠ 2) : Calls Tryz.prog 13 #[.pointer (some ⟨b, 0, none⟩), .slice A n c] w fun e w' => e = .returned (.tuple #[.slice none 0 0, .int .i64 1]) ∧ Ext w w' := by
  have mixed := mixed
  have h3 : ((n : Int) != 2) = true := by simp; omega
  go_enter Tryz.func13, Tryz.ntmps13
  go_wp2_with fail
  go_quiet (fail)
  go_wp2
  go_ret2
  exact ⟨rfl, (by with_reducible (repeat first | exact Ext.refl _ | assumption | apply Ext.alloc | apply Ext.drewN | apply Ext.drew | apply Ext.grow | refine Ext.trans ?_ (by assumption)))⟩
set_option maxRecDepth 100000 in
set_option maxHeartbeats 2000000 in
theorem jStep_left (b b1 o1 cc bl : Nat) (B1 : Option Addr) (n1 m1 : Nat) (nl : Int) (D1 : Value) (da : List GE) (w : World) (c0 : w.cell? ⟨b, 0, none⟩ = some (.slice B1 n1 m1)) (c1 : w.cell? ⟨b, 1, none⟩ = some (.int .i64 nl)) (c2 : w.cell? ⟨b, 2, none⟩ = some (.pointer (some ⟨bl, 0, none⟩))) (e0 : w.cell? ⟨b1, o1, none⟩ = some D1) (hda : RdZ w AnyB D1 da) (hf : fitsZ nl da = false) :
    Calls Tryz.prog 13 #[.pointer (some ⟨b, 0, none⟩), .slice (some ⟨b1, o1, none⟩) 2 cc] w fun e w' => e = .returned (.tuple #[.slice none 0 0, .int .i64 1]) ∧ Ext w w' := by
  have mixed := mixed
  have hF1 := fun (n : Nat) (os : Array Obj) => jFits_any B1 n1 m1 D1 nl (some ⟨bl, 0, none⟩) da (Go.Sort.grow (w.drewN n) os) (hda.ext (Ext.grow (Ext.refl w) n os).below)
  rw [hf] at hF1
  obtain ⟨A, c, rfl, _⟩ := hda.shape
  have c0 := gc c0
  have c1 := gc c1
  have c2 := gc c2
  have e0 := gc e0
  clear hda
  go_enter Tryz.func13, Tryz.ntmps13
  go_wp2_with fail
  (refine wp_region_quiet_grown (by assumption) (by kernel_rfl) ?_; (repeat (go_big_quiet_step ( (go_at_call 29; exact grown_ext (hF1 _ _)) ))); refine wpQuiet_nil ?_; intro _ hw'; obtain ⟨⟨nq, osq⟩, hw''⟩ := hw'; subst hw'')
  go_wp2
  go_ret2
  exact ⟨rfl, (by with_reducible (repeat first | exact Ext.refl _ | assumption | apply Ext.alloc | apply Ext.drewN | apply Ext.drew | apply Ext.grow | refine Ext.trans ?_ (by assumption)))⟩
set_option maxRecDepth 100000 in
set_option maxHeartbeats 2000000 in
theorem jStep_right (b b1 o1 cc bl br : Nat) (B1 B2 : Option Addr) (n1 m1 n2 m2 : Nat) (nl nr : Int) (D1 D2 : Value) (da dz : List GE) (w : World) (c0 : w.cell? ⟨b, 0, none⟩ = some (.slice B1 n1 m1)) (c1 : w.cell? ⟨b, 1, none⟩ = some (.int .i64 nl)) (c2 : w.cell? ⟨b, 2, none⟩ = some (.pointer (some ⟨bl, 0, none⟩))) (e0 : w.cell? ⟨b1, o1, none⟩ = some D1)
    (c3 : w.cell? ⟨b, 3, none⟩ = some (.slice B2 n2 m2)) (c4 : w.cell? ⟨b, 4, none⟩ = some (.int .i64 nr)) (c5 : w.cell? ⟨b, 5, none⟩ = some (.pointer (some ⟨br, 0, none⟩))) (e1 : w.cell? ⟨b1, o1 + 1, none⟩ = some D2) (hda : RdZ w AnyB D1 da) (hdz : RdZ w AnyB D2 dz) (hf : fitsZ nl da = true) (hf2 : fitsZ nr dz = false) :
    Calls Tryz.prog 13 #[.pointer (some ⟨b, 0, none⟩), .slice (some ⟨b1, o1, none⟩) 2 cc] w fun e w' => e = .returned (.tuple #[.slice none 0 0, .int .i64 1]) ∧ Ext w w' := by
  have mixed := mixed
  have hF1 := fun (n : Nat) (os : Array Obj) => jFits_any B1 n1 m1 D1 nl (some ⟨bl, 0, none⟩) da (Go.Sort.grow (w.drewN n) os) (hda.ext (Ext.grow (Ext.refl w) n os).below)
  have hF2 := fun (n : Nat) (os : Array Obj) => jFits_any B2 n2 m2 D2 nr (some ⟨br, 0, none⟩) dz (Go.Sort.grow (w.drewN n) os) (hdz.ext (Ext.grow (Ext.refl w) n os).below)
  rw [hf] at hF1
  rw [hf2] at hF2
  obtain ⟨A, c, rfl, _⟩ := hda.shape
  obtain ⟨A', c', rfl, _⟩ := hdz.shape
  have c0 := gc c0
  have c1 := gc c1
  have c2 := gc c2
  have e0 := gc e0
  have c3 := gc c3
  have c4 := gc c4
  have c5 := gc c5
  have e1 := gc e1
  clear hda hdz
  go_enter Tryz.func13, Tryz.ntmps13
  go_wp2_with fail
  (refine wp_region_quiet_grown (by assumption) (by kernel_rfl) ?_; (repeat (go_big_quiet_step ( (go_at_call 29; first | (with_reducible exact grown_ext (hF1 _ _)) | (with_reducible exact grown_ext (hF2 _ _))) ))); refine wpQuiet_nil ?_; intro _ hw'; obtain ⟨⟨nq, osq⟩, hw''⟩ := hw'; subst hw'')
  go_wp2
  go_ret2
  exact ⟨rfl, (by with_reducible (repeat first | exact Ext.refl _ | assumption | apply Ext.alloc | apply Ext.drewN | apply Ext.drew | apply Ext.grow | refine Ext.trans ?_ (by assumption)))⟩
set_option maxRecDepth 100000 in
set_option maxHeartbeats 2000000 in
theorem jStep_broken (b b1 o1 cc bl br : Nat) (B1 B2 : Option Addr) (n1 m1 n2 m2 : Nat) (nl nr broken : Int) (D1 D2 : Value) (da dz : List GE) (w : World) (c0 : w.cell? ⟨b, 0, none⟩ = some (.slice B1 n1 m1)) (c1 : w.cell? ⟨b, 1, none⟩ = some (.int .i64 nl)) (c2 : w.cell? ⟨b, 2, none⟩ = some (.pointer (some ⟨bl, 0, none⟩))) (e0 : w.cell? ⟨b1, o1, none⟩ = some D1)
    (c3 : w.cell? ⟨b, 3, none⟩ = some (.slice B2 n2 m2)) (c4 : w.cell? ⟨b, 4, none⟩ = some (.int .i64 nr)) (c5 : w.cell? ⟨b, 5, none⟩ = some (.pointer (some ⟨br, 0, none⟩))) (c6 : w.cell? ⟨b, 6, none⟩ = some (.int .i64 broken)) (e1 : w.cell? ⟨b1, o1 + 1, none⟩ = some D2) (hda : RdZ w AnyB D1 da) (hdz : RdZ w AnyB D2 dz) (hf : fitsZ nl da = true) (hf2 : fitsZ nr dz = true) (hbr : broken ≠ 0) :
    Calls Tryz.prog 13 #[.pointer (some ⟨b, 0, none⟩), .slice (some ⟨b1, o1, none⟩) 2 cc] w fun e w' => e = .returned (.tuple #[.slice none 0 0, .int .i64 broken]) ∧ Ext w w' := by
  have mixed := mixed
  have hF1 := fun (n : Nat) (os : Array Obj) => jFits_any B1 n1 m1 D1 nl (some ⟨bl, 0, none⟩) da (Go.Sort.grow (w.drewN n) os) (hda.ext (Ext.grow (Ext.refl w) n os).below)
  have hF2 := fun (n : Nat) (os : Array Obj) => jFits_any B2 n2 m2 D2 nr (some ⟨br, 0, none⟩) dz (Go.Sort.grow (w.drewN n) os) (hdz.ext (Ext.grow (Ext.refl w) n os).below)
  rw [hf] at hF1
  rw [hf2] at hF2
  obtain ⟨A, c, rfl, _⟩ := hda.shape
  obtain ⟨A', c', rfl, _⟩ := hdz.shape
  have hbb : (broken != 0) = true := by simpa using hbr
  have c0 := gc c0
  have c1 := gc c1
  have c2 := gc c2
  have e0 := gc e0
  have c3 := gc c3
  have c4 := gc c4
  have c5 := gc c5
  have c6 := gc c6
  have e1 := gc e1
  clear hda hdz hbr
  go_enter Tryz.func13, Tryz.ntmps13
  go_wp2_with fail
  (refine wp_region_quiet_grown (by assumption) (by kernel_rfl) ?_; (repeat (go_big_quiet_step ( (go_at_call 29; first | (with_reducible exact grown_ext (hF1 _ _)) | (with_reducible exact grown_ext (hF2 _ _))) ))); refine wpQuiet_nil ?_; intro _ hw'; obtain ⟨⟨nq, osq⟩, hw''⟩ := hw'; subst hw'')
  go_wp2_with fail
  have d6 := c6 nq osq
  clear c0 c1 c2 c3 c4 c5 c6 e0 e1
  have HE := As.mk (Ext.grow (Ext.refl w) nq osq)
  generalize Go.Sort.grow (w.drewN nq) osq = w1 at *
  go_quiet (fail)
  go_wp2
  go_ret2
  exact ⟨rfl, HE.out.trans ((by with_reducible (repeat first | exact Ext.refl _ | assumption | apply Ext.alloc | apply Ext.drewN | apply Ext.drew | apply Ext.grow | refine Ext.trans ?_ (by assumption))))⟩
end Go.Proofs.YtflckpfpgpfjlaaGreatDoor
end
section
namespace Go.Proofs.YtflckpfpgpfjlaaGreatDoor
open Go.RowKit Go.Sort
theorem RdD.two {R : Nat → Prop} {w : World} {v : Value} {da dz : List GE} (h : RdD w (Safe R) v [da, dz]) : ∃ b1 o1 c D1 dc1 D2 dc2, v = .slice (some ⟨b1, o1, none⟩) 2 c ∧ RdZ w (Safe R) (.slice D1 da.length dc1) da ∧ RdZ w (Safe R) (.slice D2 dz.length dc2) dz ∧
    ∀ w', JMut R w w' → w'.cell? ⟨b1, o1, none⟩ = some (.slice D1 da.length dc1) ∧ w'.cell? ⟨b1, o1 + 1, none⟩ = some (.slice D2 dz.length dc2) := by
  obtain ⟨A, c, rfl, hc, hl, h⟩ := h
  obtain ⟨b, o, cells, t, fr, rfl, hb, hh, hx⟩ := h (by simp)
  obtain ⟨cs, e1, ⟨v1, rfl, hr1⟩, e3, e4⟩ := hx 0 da rfl
  obtain ⟨cs, g1, ⟨v2, rfl, hr2⟩, g3, g4⟩ := hx 1 dz rfl
  obtain ⟨D1, dc1, rfl, _⟩ := hr1.shape
  obtain ⟨D2, dc2, rfl, _⟩ := hr2.shape
  refine ⟨b, o, c, D1, dc1, D2, dc2, rfl, hr1, hr2, fun w' hm => ?_⟩
  have h2 := (hm.safe b t cells fr hb hh).2
  refine ⟨?_, ?_⟩
  · rw [cell_of_row w' b _ cells t fr h2]
    exact e4 0 _ rfl
  · rw [cell_of_row w' b _ cells t fr h2]
    exact g4 0 _ rfl
theorem jStep_any (R : Nat → Prop) (b bl br : Nat) (lc rc : List Int) (nl nr broken : Int) (a z : List GE) (ds : List (List GE)) (v : Value) (w : World) (hw : GW w) (h : JSt R b bl br w lc rc nl nr broken a z) (hv : RdD w (Safe R) v ds) (hG : ¬ R 0) (hN : ∀ da dz, ds = [da, dz] → (a.length + da.length) * (z.length + dz.length) ≤ 2147483648 ∧ a.length + da.length ≤ 1073741824 ∧ z.length + dz.length ≤ 1073741824) :
    Calls Tryz.prog 13 #[.pointer (some ⟨b, 0, none⟩), v] w (StepAny R b bl br lc rc nl nr broken a z ds w) := by
  obtain ⟨SL, SR, hI, bL, bR⟩ := h
  have hno : ∀ e w', fitsD nl nr ds = false → (e = .returned (.tuple #[.slice none 0 0, .int .i64 1]) ∧ Ext w w') → StepAny R b bl br lc rc nl nr broken a z ds w e w' := fun e w' hf hh => by
    unfold StepAny
    rw [if_pos hf]
    exact hh
  by_cases hl : ds.length = 2
  · obtain ⟨da, dz, rfl⟩ : ∃ da dz, ds = [da, dz] := by
      match ds, hl with
      | [da, dz], _ => exact ⟨da, dz, rfl⟩
    obtain ⟨b1, o1, c, D1, dc1, D2, dc2, rfl, hda, hdz, hE⟩ := hv.two
    obtain ⟨e0, e1⟩ := hE w (JMut.refl R w)
    obtain ⟨hN1, hN2, hN3⟩ := hN da dz rfl
    have hI' := hI
    obtain ⟨_, PL, PR, lv, rv, h1, hlv, hrv, hL, hR, _⟩ := hI'
    obtain ⟨B1, m1, rfl, _⟩ := hlv.shape
    obtain ⟨B2, m2, rfl, _⟩ := hrv.shape
    have ha := hda.mv (Stays.any _ _)
    have hz := hdz.mv (Stays.any _ _)
    have c0 : w.cell? ⟨b, 0, none⟩ = some (.slice B1 lc.length m1) := by rw [Lib.cell_of_heap h1]; rfl
    have c1 : w.cell? ⟨b, 1, none⟩ = some (.int .i64 nl) := by rw [Lib.cell_of_heap h1]; rfl
    have c2 : w.cell? ⟨b, 2, none⟩ = some (.pointer (some ⟨bl, 0, none⟩)) := by rw [Lib.cell_of_heap h1]; rfl
    have c3 : w.cell? ⟨b, 3, none⟩ = some (.slice B2 rc.length m2) := by rw [Lib.cell_of_heap h1]; rfl
    have c4 : w.cell? ⟨b, 4, none⟩ = some (.int .i64 nr) := by rw [Lib.cell_of_heap h1]; rfl
    have c5 : w.cell? ⟨b, 5, none⟩ = some (.pointer (some ⟨br, 0, none⟩)) := by rw [Lib.cell_of_heap h1]; rfl
    have c6 : w.cell? ⟨b, 6, none⟩ = some (.int .i64 broken) := by rw [Lib.cell_of_heap h1]; rfl
    cases hfa : fitsZ nl da with
    | false => exact (jStep_left b b1 o1 c bl B1 _ m1 nl _ da w c0 c1 c2 e0 ha hfa).mono fun e w' hh => hno e w' (by unfold fitsD; simp only; rw [hfa]; rfl) hh
    | true =>
      cases hfz : fitsZ nr dz with
      | false => exact (jStep_right b b1 o1 c bl br B1 B2 _ m1 _ m2 nl nr _ _ da dz w c0 c1 c2 e0 c3 c4 c5 e1 ha hz hfa hfz).mono fun e w' hh => hno e w' (by unfold fitsD; simp only; rw [hfa, hfz]; rfl) hh
      | true =>
        have hff : fitsD nl nr [da, dz] = true := by unfold fitsD; simp only; rw [hfa, hfz]; rfl
        by_cases hbr : broken = 0
        · subst hbr
          have hJ := JC.of (wl := nl) (wr := nr) hw (hlv.mv (Stays.any _ _)) (hrv.mv (Stays.any _ _)) hL hR bL bR ha hz (fits_parts hfa).1 (fits_parts hfz).1 (by omega) (by omega)
          refine (jStep_walk R b bl br b1 o1 c B1 B2 D1 D2 lc.length m1 rc.length m2 dc1 dc2 lc rc nl nr a z da dz SL SR w hw hI bL bR ⟨c0, c1, c2, c3, c4, c5, c6, e0, e1⟩ hJ ha hz hG hE hdz hfa hfz hN1 hN2 hN3).mono fun e w' hh => ?_
          unfold StepAny
          rw [if_neg (by rw [hff]; decide), if_neg (fun h => h rfl)]
          exact ⟨da, dz, rfl, hh⟩
        · refine (jStep_broken b b1 o1 c bl br B1 B2 _ m1 _ m2 nl nr broken _ _ da dz w c0 c1 c2 e0 c3 c4 c5 c6 e1 ha hz hfa hfz hbr).mono fun e w' hh => ?_
          unfold StepAny
          rw [if_neg (by rw [hff]; decide), if_pos hbr]
          exact hh
  · obtain ⟨A, c, rfl, _⟩ := hv.shape
    refine (jStep_len b A ds.length c w hv.len hl).mono fun e w' hh => hno e w' ?_ hh
    unfold fitsD
    split
    · exact absurd rfl hl
    · rfl
end Go.Proofs.YtflckpfpgpfjlaaGreatDoor
end
section
namespace Go.Proofs.YtflckpfpgpfjlaaGreatDoor
open Go.RowKit Go.Sort
theorem rows_le : ∀ {z l : List GE}, (z.Pairwise fun x y => x.row ≠ y.row) → (∀ x ∈ z, ∃ y ∈ l, y.row = x.row) → z.length ≤ l.length
  | [], _, _, _ => Nat.zero_le _
  | x :: z, l, hp, h => by
    obtain ⟨y, hy, e⟩ := h x (by simp)
    have h1 := rows_le (z := z) (l := l.filter fun u => !sameR u.row x.row) (List.pairwise_cons.1 hp).2 fun u hu => by
      obtain ⟨v, hv, e2⟩ := h u (by simp [hu])
      refine ⟨v, List.mem_filter.2 ⟨hv, ?_⟩, e2⟩
      rw [Bool.not_eq_true', ← Bool.not_eq_true]
      intro hc
      exact (List.pairwise_cons.1 hp).1 u hu (by rw [← e2, (sameR_eq _ _).1 hc])
    have h2 : (l.filter fun u => !sameR u.row x.row).length < l.length := by
      rw [List.length_filter_lt_length_iff_exists]
      exact ⟨y, hy, by rw [(sameR_eq _ _).2 e]; decide⟩
    rw [List.length_cons]
    omega
theorem Made.length {l z : List GE} (h : Made l z) : z.length ≤ l.length := rows_le (h.ok.rise.imp fun hr => rlex_ne hr) fun x hx => by
  have h1 := h.ok.w x hx
  rw [← h.ok.at hx, h.sum] at h1
  exact zw_mem h1
theorem putE_ok {cols : List Int} {z d : List GE} (hs : zsound d = true) (hp : ∀ x ∈ d, ∃ k, pick x.row cols = some k) (hf : ∀ x ∈ d, fair (zw z x.row + x.w) = true) : putE cols z d = 0 := by
  unfold putE
  rw [if_neg, if_neg]
  · rw [Bool.not_eq_true, List.any_eq_false]
    intro x hx
    rw [fair_over (hf x hx)]
    simp
  · rintro (h | h)
    · rw [hs] at h
      cases h
    · obtain ⟨x, hx, h⟩ := List.any_eq_true.1 h
      obtain ⟨k, hk⟩ := hp x hx
      rw [hk] at h
      cases h
section
variable {lc rc : List Int} {wl wr : Nat} {a z da dz : List GE}
theorem JFit.putA (h : JFit lc rc wl wr a z da dz) (sa : zsound da = true) : putE lc a da = 0 := putE_ok sa (fun x hx => h.lk x.row (h.zda.row x hx) (h.dal x hx)) fun x hx => by
  have := h.a' x.row
  rw [h.zda.at hx] at this
  exact fair_of (by omega) (by omega)
theorem JFit.putZ (h : JFit lc rc wl wr a z da dz) (sz : zsound dz = true) : putE rc z dz = 0 := putE_ok sz (fun x hx => h.rk x.row (h.zdb.row x hx) (h.dbl x hx)) fun x hx => by
  have := h.b' x.row
  rw [h.zdb.at hx] at this
  exact fair_of (by omega) (by omega)
theorem JOk.notBad (h : JOk lc rc wl wr a z da dz) (hw : wl + wr ≤ 1024) (sa : zsound da = true) (sz : zsound dz = true) : badJ lc rc a z da dz = false := by
  have hv : (over1s lc rc a z da dz || over2s lc rc a z da dz) = false := by
    cases hc : (over1s lc rc a z da dz || over2s lc rc a z da dz) with
    | false => rfl
    | true =>
      obtain ⟨p, q, h1, h2, h3, h4, h5, h6⟩ := over_vast h.fit (by simpa using hc)
      have := h.new p q h1 h2 h3 h4 h5
      omega
  unfold badJ outsJ
  rw [hv, h.fit.putA sa, h.fit.putZ sz, h.fine hw, h.notOver]
  rfl
theorem vast_bad (h : JFit lc rc wl wr a z da dz) (hold : ∀ p q, RowOk p → RowOk q → p.length = wl → q.length = wr → keyOf lc p = keyOf rc q → zw a p * zw z q ≤ 1099511627776) (hv : Vast lc rc wl wr a z da dz) : badJ lc rc a z da dz = true := by
  unfold badJ
  rcases vast_over h hold hv with h1 | h1 <;> simp [h1]
variable {R : Nat → Prop} {b bl br : Nat} {w w' : World} {e : Ending}
theorem StepAny.post (h : StepAny R b bl br lc rc wl wr 0 a z [da, dz] w e w') (hj : JFit lc rc wl wr a z da dz) (sa : zsound da = true) (sz : zsound dz = true) : StepPost R b bl br lc rc wl wr a z da dz w e w' := by
  have hf : fitsD wl wr [da, dz] = true := by
    unfold fitsD
    simp only
    rw [fits_of sa (fun x hx => by rw [hj.dal x hx]), fits_of sz (fun x hx => by rw [hj.dbl x hx])]
    rfl
  unfold StepAny at h
  rw [if_neg (by rw [hf]; decide), if_neg (fun h => h rfl)] at h
  obtain ⟨da', dz', heq, hp⟩ := h
  simp only [List.cons.injEq, and_true] at heq
  obtain ⟨rfl, rfl⟩ := heq
  exact hp
theorem StepAny.ok (h : StepAny R b bl br lc rc wl wr 0 a z [da, dz] w e w') (hj : JOk lc rc wl wr a z da dz) (hw : wl + wr ≤ 1024) (sa : zsound da = true) (sz : zsound dz = true) :
    ∃ v d, e = .returned (.tuple #[v, .int .i64 0]) ∧ JDelta lc rc wl wr a z da dz d ∧ RdZ2 w' w.heap.size v d ∧ JMut R w w' ∧ ∃ a' z', JSt (Since R w.heap.size w'.heap.size) b bl br w' lc rc wl wr 0 a' z' ∧ ZSum a da a' ∧ ZSum z dz z' ∧ d.length ≤ (outsJ lc rc a z da dz).length := by
  have hp := h.post hj.fit sa sz
  unfold StepPost at hp
  rw [if_neg (by rw [hj.notBad hw sa sz]; decide)] at hp
  obtain ⟨v, d, m, he, hm, hr, hret⟩ := hp
  have hlow := hret.1
  obtain ⟨hmut, a', z', hs, h1, h2⟩ := hret.ret
  exact ⟨v, d, he, hj.delta hm, hr.low hlow, hmut, a', z', hs, h1 (hj.fit.putA sa), h2 (hj.fit.putZ sz), hm.length⟩
theorem StepAny.vast (h : StepAny R b bl br lc rc wl wr 0 a z [da, dz] w e w') (hj : JFit lc rc wl wr a z da dz) (hold : ∀ p q, RowOk p → RowOk q → p.length = wl → q.length = wr → keyOf lc p = keyOf rc q → zw a p * zw z q ≤ 1099511627776) (hv : Vast lc rc wl wr a z da dz) (sa : zsound da = true) (sz : zsound dz = true) :
    e = .returned (.tuple #[.slice none 0 0, .int .i64 14]) ∧ JMut R w w' ∧ ∃ a' z', JSt (Since R w.heap.size w'.heap.size) b bl br w' lc rc wl wr 14 a' z' ∧ ZSum a da a' ∧ ZSum z dz z' := by
  have hp := h.post hj sa sz
  unfold StepPost at hp
  rw [if_pos (vast_bad hj hold hv)] at hp
  obtain ⟨he, hmut, a', z', hs, h1, h2⟩ := hp
  exact ⟨he, hmut, a', z', hs, h1 (hj.putA sa), h2 (hj.putZ sz)⟩
end
theorem told_made {a da a' y : List GE} (h : ZSum a da a') (ha : ZOk a') (hy : Made (a ++ da) y) : a' = y := zext ha hy.ok fun r hr => by rw [h r hr, hy.sum, zw_app]
theorem JSt.one {R : Nat → Prop} {b bl br : Nat} {w : World} {lc rc : List Int} {nl nr q : Int} {a z da dz a' z' y u : List GE} (h : JSt R b bl br w lc rc nl nr q a' z') (h1 : ZSum a da a') (h2 : ZSum z dz z') (hy : Made (a ++ da) y) (hu : Made (z ++ dz) u) : JSt R b bl br w lc rc nl nr q y u := by
  obtain ⟨SL, SR, hI, bL, bR⟩ := h
  rw [told_made h1 bL.told.ok hy] at bL
  rw [told_made h2 bR.told.ok hu] at bR
  exact ⟨SL, SR, hI, bL, bR⟩
theorem JSt.new {b bl br n : Nat} {w : World} {lc rc : List Int} {wl wr : Int} (h : JNew b bl br w lc rc wl wr) (hb : n ≤ b) (hl : n ≤ bl) (hr : n ≤ br) : JSt (fun k => n ≤ k ∧ k < w.heap.size) b bl br w lc rc wl wr 0 [] [] := ⟨_, _, h.inside hb hl hr, Bag.new lc, Bag.new rc⟩
end Go.Proofs.YtflckpfpgpfjlaaGreatDoor
end
