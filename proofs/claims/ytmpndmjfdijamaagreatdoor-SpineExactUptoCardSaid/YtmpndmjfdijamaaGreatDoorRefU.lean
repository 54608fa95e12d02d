/- The walks of the reference's put. -/
import Derived.Test.YtmpndmjfdijamaaGreatDoorRefT
import Derived.Test.YtmpndmjfdijamaaGreatDoorRef3
import Derived.Test.YtmpndmjfdijamaaGreatDoorOwn2
set_option linter.unusedVariables false
set_option linter.unusedSimpArgs false
namespace Go.Proofs.YtmpndmjfdijamaaGreatDoor
open Go.RowKit Go.Sort
def ET (w : World) (ok : Blk) (t : GT) (cs : List Value) : Prop := ∃ v, cs = [v, .int .i64 t.high, .int .i64 t.low] ∧ i64 t.high ∧ i64 t.low ∧ RdV w ok v t.row
theorem ET.mv {w w' : World} {ok ok' : Blk} {t : GT} {cs : List Value} (h : ET w ok t cs) (hs : Stays w w' ok ok') : ET w' ok' t cs := by
  obtain ⟨v, h1, h2, h3, h4⟩ := h
  exact ⟨v, h1, h2, h3, h4.mv hs⟩
theorem info_total : (Tryz.prog.info? 140).map (fun i => (i.zero, i.size, i.bytes)) = some (some (.agg #[.slice none 0 0, .int .i64 0, .int .i64 0]), 3, 40) := by kernel_rfl
/-- An own total's cells. -/
theorem OwnL.tot {w w1 : World} {ok : Blk} {base g n c : Nat} {ts : List GT} (h : OwnL 3 (ET w1 ok) 140 w base (.slice (some ⟨g, 0, none⟩) n c) ts) {j : Nat} {t : GT} (hj : ts[j]? = some t) :
    ∃ A d, RdV w1 ok (.slice A t.row.length d) t.row ∧ i64 t.high ∧ i64 t.low ∧ w.cell? ⟨g, j * 3, none⟩ = some (.slice A t.row.length d) ∧ w.cell? ⟨g, j * 3 + 1, none⟩ = some (.int .i64 t.high) ∧ w.cell? ⟨g, j * 3 + 2, none⟩ = some (.int .i64 t.low) ∧
      w.frozen? ⟨g, j * 3, none⟩ = false ∧ w.frozen? ⟨g, j * 3 + 1, none⟩ = false ∧ w.frozen? ⟨g, j * 3 + 2, none⟩ = false := by
  have hr := h.rd (ok := AnyB) fun _ _ => trivial
  obtain ⟨b, o, c', hv, hb, cs, _, ⟨u, rfl, h1, h2, hrow⟩, _, hc⟩ := hr.at hj
  obtain ⟨A, d, rfl, _⟩ := hrow.shape
  obtain ⟨cs', ho, _⟩ := h
  injection hv with e1 e2 e3
  injection e1 with e1
  injection e1 with e1 e4
  subst e1 e4 e2
  have f := fun k => ho.frozenAt k
  have c0 := hc 0 _ rfl
  have c1 := hc 1 _ rfl
  have c2 := hc 2 _ rfl
  simp only [Nat.zero_add, Nat.add_zero] at c0 c1 c2
  exact ⟨A, d, hrow, h1, h2, c0, c1, c2, f _, f _, f _⟩
theorem and31 (n : Int) : bits BinOp.and .i64 n 2147483647 = n % 2147483648 := by
  show IntKind.i64.wrap ((BitVec.ofInt 64 n &&& BitVec.ofInt 64 2147483647).toNat : Int) = _
  rw [BitVec.toNat_and, BitVec.toNat_ofInt, BitVec.toNat_ofInt, show ((2147483647 : Int) % ((2 ^ 64 : Nat) : Int)).toNat = 2 ^ 31 - 1 by decide, Nat.and_two_pow_sub_one_eq_mod, IntKind.wrap_i64]
  omega
/-- What put answers. -/
def PutTPost (B base : Nat) (v : Value) (ts : List GT) (w : World) (e : Ending) (w' : World) : Prop := ∃ u, e = .returned u ∧ OwnL 3 (ET w' (Old B)) 140 w' base u ts ∧ Below base w w'
theorem PutTPost.of {B base : Nat} {v0 u : Value} {ts : List GT} {w w4 w' : World} (hB : Below base w w4) (hbw : base ≤ w4.heap.size) (hBb : B ≤ base) (hown : OwnL 3 (ET w4 (Old B)) 140 w' base u ts) (hg : Below base w4 w') : PutTPost B base v0 ts w (.returned u) w' :=
  ⟨u, rfl, hown.imp fun _ _ h => ET.mv h fun k t cells fr ho hh => ⟨ho, (hg.block k (Nat.lt_of_lt_of_le ho.1 hBb)).trans hh⟩, hB.trans hg⟩
theorem OwnL.addr {α : Type} {sz : Nat} {E : α → List Value → Prop} {e : TypeId} {w : World} {base : Nat} {v : Value} {xs : List α} (h : OwnL sz E e w base v xs) (hn : 0 < xs.length) : ∃ g c, v = .slice (some ⟨g, 0, none⟩) xs.length c ∧ base ≤ g ∧ g < w.heap.size ∧ xs.length ≤ c ∧ v.ownBlock = some g := by
  obtain ⟨cs, ho, _⟩ := h
  rcases ho.2 with ⟨hv, h0⟩ | ⟨g, cap, cur, hv, hb, hh, hc, _⟩
  · omega
  · exact ⟨g, cap, hv, hb, (Array.getElem?_eq_some_iff.1 hh).1, hc, by rw [hv]; rfl⟩
theorem run_from {P : Program} {t e : TypeId} {i : TypeInfo} {sz : Nat} (ht : P.underlying t = some (.slice e)) (hi : P.info? e = some i) (hsz : i.size = sz) (g n c l : Nat) (hl : l ≤ n) (hnc : n ≤ c) (k : IntKind) :
    ∃ D : Option Addr, (∀ W : World, (Instr.slice t (.slice (some ⟨g, 0, none⟩) n c) (some (.int k (l : Int))) none none).run P W = .ok (.slice D (n - l) (c - l)) W) ∧ (l < n → D = some ⟨g, l * sz, none⟩) := by
  refine ⟨if c = l then some ⟨g, 0, none⟩ else (some ⟨g, 0, none⟩ : Option Addr).map (·.add (l * sz)), fun W => ?_, fun h => by rw [if_neg (by omega)]; simp [add_lit]⟩
  have hel : P.elem t = e := by simp [Program.elem, ht]
  have hu : P.underlying t = some (.slice (P.elem t)) := by rw [hel]; exact ht
  rw [run_slice_l W t _ n c hu k (l : Int) (Int.natCast_nonneg _) (by omega), hel]
  simp [Go.sizeOf, typeInfo, hi, hsz, sliced, Result.andThen]
set_option maxHeartbeats 8000000 in
set_option maxRecDepth 100000 in
theorem r3put_any (B base : Nat) (v : Value) (ts : List GT) (A : Option Addr) (c : Nat) (x : GE) (w : World) (HO : OwnL 3 (ET w (Old B)) 140 w base v ts) (hBb : B ≤ base) (hbw : base ≤ w.heap.size) (hx : RdV w (Old B) (.slice A x.row.length c) x.row) (hok : RowOk x.row) (hf : fair x.w = true)
    (hts : ∀ t ∈ ts, RowOk t.row) (hrise : ts.Pairwise fun a b => rlex a.row b.row < 0) (hlen : ts.length ≤ 2147483648) (hlow : ∀ t ∈ ts, 0 ≤ t.low ∧ t.low ≤ 4611686016279904256) (hhigh : ∀ t ∈ ts, -4611686018427387904 ≤ t.high ∧ t.high ≤ 4611686018427387904) :
    Calls Tryz.prog 98 #[v, .agg #[.slice A x.row.length c, .int .i64 x.w]] w (PutTPost B base v (insT ts x) w) := by
  have mixed := mixed
  have HTS := As.mk hts
  have HRISE := As.mk hrise
  have HLOW := As.mk hlow
  have HHIGH := As.mk hhigh
  have HOK := As.mk hok
  have HOWN := As.mk HO
  have HX := As.mk hx
  have HF := As.mk hf
  obtain ⟨Av, cv, rfl, _⟩ := HO.shape
  clear HO hts hrise hlow hhigh hok hx hf
  have HB0 : As (Below w.heap.size w (w.alloc (.cells #[.slice A x.row.length c, .int .i64 x.w] 47))) := ⟨(Below.refl _ _).alloc (Nat.le_refl _) _⟩
  go_enter Tryz.func98, Tryz.ntmps98
  go_wp2_with fail
  go_loopg [5, 6, 7] ts.length (fun g s5 s6 _ wr => ∃ (k n : Nat), k ≤ n ∧ n ≤ ts.length ∧ n - k ≤ g ∧ s5 = .int .i64 k ∧ s6 = .int .i64 n ∧ As (Ext (w.alloc (.cells #[.slice A x.row.length c, .int .i64 x.w] 47)) wr) ∧
    As (∀ (i : Nat) (t : GT), i < k → ts[i]? = some t → rlex t.row x.row < 0) ∧ As (∀ (i : Nat) (t : GT), n ≤ i → ts[i]? = some t → 0 ≤ rlex t.row x.row))
  case atStart => exact ⟨0, ts.length, by omega, by omega, by omega, by go_num, rfl, ⟨Ext.refl _⟩, ⟨fun i t h => absurd h (Nat.not_lt_zero _)⟩, ⟨fun i t h ht => by have := (List.getElem?_eq_some_iff.1 ht).1; omega⟩⟩
  case round =>
    obtain ⟨k, n, hkn, hn, hg, rfl, rfl, HE, HL, HH⟩ := hrel
    have HBW : As (Below w.heap.size w wr) := ⟨HB0.out.trans (HE.out.below.mono (by simp))⟩
    have hsz0 := HBW.out.size
    have xb0 := HE.out.cell (show (w.alloc (.cells #[.slice A x.row.length c, .int .i64 x.w] 47)).cell? ⟨w.heap.size, 0, none⟩ = some (.slice A x.row.length c) by simp)
    have xb1 := HE.out.cell (show (w.alloc (.cells #[.slice A x.row.length c, .int .i64 x.w] 47)).cell? ⟨w.heap.size, 1, none⟩ = some (.int .i64 x.w) by simp)
    have gb0 := gc xb0
    have gb1 := gc xb1
    have HOW : As (OwnL 3 (ET wr (Old B)) 140 wr base (.slice Av ts.length cv) ts) := ⟨(HOWN.out.below HBW.out).imp fun _ _ h => ET.mv h (Stays.below HBW.out _)⟩
    have HXW := As.mk (HX.out.ext HBW.out)
    by_cases hlt : k < n
    · have hltz : (k : Int) < (n : Int) := by omega
      obtain ⟨m, hm⟩ : ∃ m : Nat, m = (k + n) / 2 := ⟨_, rfl⟩
      have hmz : ((k : Int) + (n : Int)) / 2 = (m : Int) := by omega
      have hmk : k ≤ m := by omega
      have hmn : m < n := by omega
      have hml : m < ts.length := by omega
      have hmlz : (m : Int) < (ts.length : Int) := by omega
      have hm0 : (0 : Int) ≤ (m : Int) := by omega
      obtain ⟨t, ht⟩ : ∃ t, ts[m]? = some t := ⟨_, List.getElem?_eq_getElem hml⟩
      have HT := As.mk ht
      clear hm ht
      obtain ⟨g0, rfl⟩ : ∃ g0, Av = some ⟨g0, 0, none⟩ := by
        obtain ⟨cs, ho, _⟩ := HOW.out
        rcases ho.2 with ⟨hv, h0⟩ | ⟨g, cap, cur, hv, _⟩
        · omega
        · injection hv with h1; exact ⟨g, h1⟩
      obtain ⟨At, dt, hrow, hh1, hh2, c0, c1, c2, _, _, _⟩ := HOW.out.tot HT.out
      have gc0 := gc c0
      have q1 := fun W (hE : Ext wr W) => r2Compare_any _ _ t.row x.row W ((hrow.mv (Stays.any _ _)).ext hE.below) ((HXW.out.mv (Stays.any _ _)).ext hE.below)
      rw [rcmp_lex (HTS.out t (List.mem_of_getElem? HT.out)).1 HOK.out.1] at q1
      have HQ : As (∀ q, rlex t.row x.row = q → (q < 0 → ∀ (i : Nat) (s : GT), i < m + 1 → ts[i]? = some s → rlex s.row x.row < 0) ∧ (0 ≤ q → ∀ (i : Nat) (s : GT), m ≤ i → ts[i]? = some s → 0 ≤ rlex s.row x.row)) := ⟨fun q hq => by
        have hpw := List.pairwise_iff_getElem.1 HRISE.out
        obtain ⟨hml', htm⟩ := List.getElem?_eq_some_iff.1 HT.out
        refine ⟨fun h i s hi hs => ?_, fun h i s hi hs => ?_⟩
        · obtain ⟨hil, rfl⟩ := List.getElem?_eq_some_iff.1 hs
          rcases Nat.lt_or_eq_of_le (show i ≤ m by omega) with h' | rfl
          · have := hpw i m hil hml' h'
            rw [htm] at this
            exact rlex_cmp.lt_trans this (by omega)
          · rw [htm, hq]; exact h
        · obtain ⟨hil, rfl⟩ := List.getElem?_eq_some_iff.1 hs
          rcases Nat.lt_or_eq_of_le hi with h' | rfl
          · have h1 := hpw m i hml' hil h'
            rw [htm] at h1
            rcases Int.lt_or_le (rlex ts[i].row x.row) 0 with h2 | h2
            · have := rlex_cmp.lt_trans h1 h2
              omega
            · exact h2
          · rw [htm, hq]; exact h⟩
      have HQ2 := As.mk (HQ.out _ rfl)
      clear hrow hh1 hh2 c0 c1 c2 HQ
      generalize rlex t.row x.row = q at *
      have hE0 : Ext wr wr := Ext.refl _
      go_wp2_with fail
      (refine wp_region_quiet_grown (by assumption) (by kernel_rfl) ?_; (repeat (go_big_quiet_step ( (go_at_call 63; exact grown_ext (q1 _ (Ext.grow hE0 _ _))) ))); refine wpQuiet_nil ?_; intro _ hw'; obtain ⟨⟨nq, osq⟩, hw''⟩ := hw'; subst hw'')
      have HEN : As (Ext (w.alloc (.cells #[.slice A x.row.length c, .int .i64 x.w] 47)) (grow (wr.drewN nq) osq)) := ⟨HE.out.grow _ _⟩
      go_wp2_with fail
      · go_roundg (n - (m + 1))
        case measure => omega
        case rel =>
          have hq : q < 0 := by assumption
          exact ⟨m + 1, n, by omega, by omega, by omega, by go_num, rfl, HEN, ⟨HQ2.out.1 hq⟩, HH⟩
      · go_roundg (m - k)
        case measure => omega
        case rel =>
          have hq : 0 ≤ q := by omega
          exact ⟨k, m, by omega, by omega, by omega, rfl, by rw [hmz], HEN, HL, ⟨HQ2.out.2 hq⟩⟩
    · obtain rfl : k = n := by omega
      clear hkn
      have hltz : ¬ (k : Int) < (k : Int) := by omega
      have hk0 : (0 : Int) ≤ (k : Int) := by omega
      have hfw : -4611686018427387904 ≤ x.w ∧ x.w ≤ 4611686018427387904 := by
        have := HF.out
        unfold fair at this
        simpa using this
      have ew : bits BinOp.and .i64 x.w 2147483647 = x.w % 2147483648 := and31 _
      have HNT : As (ET wr (Old B) (newT x) [.slice A x.row.length c, .int .i64 (x.w / 2147483648), .int .i64 (x.w % 2147483648)]) := ⟨⟨_, rfl, by unfold newT i64; simp only; omega, by unfold newT i64; simp only; omega, HXW.out⟩⟩
      by_cases hend : k < ts.length
      · have hkz : (k : Int) < (ts.length : Int) := by omega
        obtain ⟨t, ht⟩ : ∃ t, ts[k]? = some t := ⟨_, List.getElem?_eq_getElem hend⟩
        have HT := As.mk ht
        have hkd : decide ((k : Int) < (ts.length : Int)) = true := decide_eq_true hkz
        have hkd2 : decide (k < ts.length) = true := decide_eq_true hend
        clear ht
        obtain ⟨g0, rfl⟩ : ∃ g0, Av = some ⟨g0, 0, none⟩ := by
          obtain ⟨cs, ho, _⟩ := HOW.out
          rcases ho.2 with ⟨hv, h0⟩ | ⟨g, cap, cur, hv, _⟩
          · omega
          · injection hv with h1; exact ⟨g, h1⟩
        obtain ⟨At, dt, hrow, hh1, hh2, c0, c1, c2, f0, f1, f2⟩ := HOW.out.tot HT.out
        have gc0 := gc c0
        have q1 := fun W (hE : Ext wr W) => r2Compare_any _ _ t.row x.row W ((hrow.mv (Stays.any _ _)).ext hE.below) ((HXW.out.mv (Stays.any _ _)).ext hE.below)
        rw [rcmp_lex (HTS.out t (List.mem_of_getElem? HT.out)).1 HOK.out.1] at q1
        have hq0 := HH.out k t (Nat.le_refl _) HT.out
        have HINS := As.mk (insT_hit HT.out HL.out)
        have HNEW := As.mk (insT_new HT.out HL.out)
        have hlo := HLOW.out t (List.mem_of_getElem? HT.out)
        have hhi := HHIGH.out t (List.mem_of_getElem? HT.out)
        clear hh1 hh2
        generalize rlex t.row x.row = q at *
        have hE0 : Ext wr wr := Ext.refl _
        by_cases hqz : q = 0
        · subst hqz
          have HI := As.mk (HINS.out rfl)
          clear hq0 HINS HNEW
          go_wp2_with fail
          (refine wp_region_quiet_grown (by assumption) (by kernel_rfl) ?_; (repeat (go_big_quiet_step ( (go_at_call 63; exact grown_ext (q1 _ (Ext.grow hE0 _ _))) ))); refine wpQuiet_nil ?_; intro _ hw'; obtain ⟨⟨nq, osq⟩, hw''⟩ := hw'; subst hw'')
          have hE4 : Ext wr (grow (wr.drewN nq) osq) := ⟨nq, osq, rfl⟩
          generalize grow (wr.drewN nq) osq = w4 at *
          clear gc0 gb0 gb1 q1 hE0 c0 c1 c2 f0 f1 f2
          have HB4 : As (Below w.heap.size w w4) := ⟨HBW.out.trans (hE4.below.mono hsz0)⟩
          have HOW4 : As (OwnL 3 (ET w4 (Old B)) 140 w4 base (.slice (some ⟨g0, 0, none⟩) ts.length cv) ts) := ⟨(HOW.out.below hE4.below).imp fun _ _ h => ET.mv h (Stays.below hE4.below _)⟩
          replace xb0 := hE4.cell xb0
          replace xb1 := hE4.cell xb1
          obtain ⟨At, dt, hrow, hh1, hh2, c0, c1, c2, f0, f1, f2⟩ := HOW4.out.tot HT.out
          have hsz4 : w.heap.size < w4.heap.size := cell_lt xb1
          have hg4 : g0 < w4.heap.size := cell_lt c0
          have e1 : IntKind.i64.wrap (t.high + x.w / 2147483648) = t.high + x.w / 2147483648 := by rw [IntKind.wrap_i64]; omega
          have e2 : IntKind.i64.wrap (t.low + x.w % 2147483648) = t.low + x.w % 2147483648 := by rw [IntKind.wrap_i64]; omega
          have HAT : As (ET w4 (Old B) (addT t x) [.slice At t.row.length dt, .int .i64 (t.high + x.w / 2147483648), .int .i64 (t.low + x.w % 2147483648)]) := ⟨⟨_, rfl, by unfold addT i64; simp only; omega, by unfold addT i64; simp only; omega, hrow⟩⟩
          clear hrow hE4 hlo hhi hh1 hh2 hfw
          go_wp2_with fail
          go_ret
          rw [HI.out]
          have hbz4 : base ≤ w4.heap.size := by omega
          have hS := HOW4.out.set3 (j := k) (x := addT t x) hend HAT.out ⟨rfl, rfl, rfl⟩
          exact PutTPost.of (HB4.out.mono hbw) hbz4 hBb (hS.1.alloc _) ((Below.refl _ _).grown (hS.2.trans (World.grownBy_alloc _ _ _)) hbz4 fun k hk => by injection hk with hk; subst hk; obtain ⟨_, _, hv, hb, _⟩ := HOWN.out.addr (by omega); injection hv with h1; injection h1 with h1; injection h1 with h1; rw [h1]; exact hb)
        · have HI := As.mk (HNEW.out (by omega))
          have hqb : (q == 0) = false := by simpa using hqz
          clear hq0 HINS HNEW
          go_wp2_with fail
          (refine wp_region_quiet_grown (by assumption) (by kernel_rfl) ?_; (repeat (go_big_quiet_step ( (go_at_call 63; exact grown_ext (q1 _ (Ext.grow hE0 _ _))) ))); refine wpQuiet_nil ?_; intro _ hw'; obtain ⟨⟨nq, osq⟩, hw''⟩ := hw'; subst hw'')
          have hE4 : Ext wr (grow (wr.drewN nq) osq) := ⟨nq, osq, rfl⟩
          generalize grow (wr.drewN nq) osq = w4 at *
          clear q1 c0 c1 c2 f0 f1 f2
          clear gc0 gb0 gb1 hE0
          have HB4 : As (Below w.heap.size w w4) := ⟨HBW.out.trans (hE4.below.mono hsz0)⟩
          have HOW4 : As (OwnL 3 (ET w4 (Old B)) 140 w4 base (.slice (some ⟨g0, 0, none⟩) ts.length cv) ts) := ⟨(HOW.out.below hE4.below).imp fun _ _ h => ET.mv h (Stays.below hE4.below _)⟩
          replace xb0 := hE4.cell xb0
          replace xb1 := hE4.cell xb1
          have HNT4 := As.mk (HNT.out.mv (Stays.below hE4.below _))
          have hsz4 : w.heap.size < w4.heap.size := cell_lt xb0
          have hbz4 : base ≤ w4.heap.size := by omega
          have HBB4 : As (Below base w w4) := ⟨HB4.out.mono hbw⟩
          have HLZ : As (ts.length < 4294967296) := ⟨by omega⟩
          have HNO : As ((Value.slice (some ⟨g0, 0, none⟩) ts.length cv).ownBlock ≠ some w.heap.size) := ⟨fun h => by have := (HOWN.out.lt _ h).2; omega⟩
          clear hE4 hfw
          go_wp2_with (at_builtin; go_loud (refine OwnL.append (W := w4) base rfl (.tmp 68) (.tmp 70) 137 140 _ 3 40 rfl Tryz.underlying137 info_total rfl (by decide) (by decide) (.slice (some ⟨g0, 0, none⟩) ts.length cv) ts ⟨[], 0, 0⟩ [.slice none 0 0, .int .i64 0, .int .i64 0] rfl rfl (E := ET w4 (Old B)) ⟨_, rfl, ⟨by decide, by decide⟩, ⟨by decide, by decide⟩, RdL.nil _ _ _ _⟩ rfl (by simp [Value.oneCell']) HOW4.out HBB4.out hbz4 HLZ.out rfl ?_); intro v5 w5 hown5 hb5 hg5 hat5)
          obtain ⟨g1, c1, hv5, hg1, hg1s, hc1, how5⟩ := hown5.addr (by simp)
          rw [List.length_append, List.length_singleton] at hv5 hc1
          subst hv5
          have hxb : some w.heap.size ≠ Value.ownBlock (.slice (some ⟨g0, 0, none⟩) ts.length cv) := fun h => HNO.out h.symm
          have hxg : g1 ≠ w.heap.size := by
            rcases hat5 with h | ⟨b, h, hb⟩
            · intro e
              rw [how5, e] at h
              exact hxb h
            · rw [how5] at h
              injection h with h
              omega
          replace xb0 := hg5.cell xb0 hxb
          replace xb1 := hg5.cell xb1 hxb
          have hsz5 : w.heap.size < w5.heap.size := cell_lt xb0
          obtain ⟨it, hit, hitz⟩ := Option.map_eq_some_iff.1 info_total
          simp only [Prod.mk.injEq] at hitz
          have HG5 := As.mk hg5
          have HB5 : As (Below base w4 w5.drew) := ⟨(((Below.refl _ _).grown HG5.out hbz4 fun k hk => (HOW4.out.lt k hk).1)).trans ((Ext.drew (Ext.refl w5)).below.mono (Nat.le_trans hbz4 HG5.out.size))⟩
          have HMM : As (ts.length - k = Nat.min (ts.length + 1 - k) (ts.length - k)) := ⟨by show _ = min _ _; omega⟩
          have HM1 : As (k + 1 + (ts.length - k) ≤ (ts ++ [(⟨[], 0, 0⟩ : GT)]).length) := ⟨by rw [List.length_append, List.length_singleton]; omega⟩
          have HM2 : As (k + (ts.length - k) ≤ (ts ++ [(⟨[], 0, 0⟩ : GT)]).length) := ⟨by rw [List.length_append, List.length_singleton]; omega⟩
          have HDD : As (0 < ts.length - k → ¬ c1 = k + 1) := ⟨fun h => by omega⟩
          have HSS : As (0 < ts.length - k → ¬ c1 = k) := ⟨fun h => by omega⟩
          have hwk1 : (0 : Int) ≤ (k : Int) + 1 := by omega
          have hwk4 : (k : Int) ≤ (ts.length : Int) + 1 := by omega
          have hwk : IntKind.i64.wrap ((k : Int) + 1) = (k : Int) + 1 := by rw [IntKind.wrap_i64]; omega
          have HO5 : As (OwnL 3 (ET w4 (Old B)) 140 w5.drew base (.slice (some ⟨g1, 0, none⟩) (ts.length + 1) c1) (ts ++ [⟨[], 0, 0⟩])) := ⟨hown5.ext (Ext.drew (Ext.refl _))⟩
          have HIT := As.mk hit
          have HITS := As.mk hitz.2.1
          clear hown5 hb5 hg5 hat5 hit hitz how5
          go_wp2_with fail
          go_region_law (go_loud (refine OwnL.copy_step (w := w5.drew) base rfl (.tmp 75) (.tmp 78) 137 140 it rfl Tryz.underlying137 HIT.out HITS.out g1 (ts.length + 1) c1 (ts ++ [⟨[], 0, 0⟩]) (k + 1) k (ts.length - k) (if c1 = k + 1 then some ⟨g1, 0, none⟩ else some ⟨g1, (k + 1) * 3, none⟩) (if c1 = k then some ⟨g1, 0, none⟩ else some ⟨g1, k * 3, none⟩) (ts.length - k) (c1 - (k + 1)) (ts.length + 1 - k) (c1 - k) (by go_simp) (fun h => if_neg (HDD.out h)) (by go_simp) (fun h => if_neg (HSS.out h)) HMM.out HM1.out HM2.out HO5.out HB5.out ?_); intro w6 hown6 hb6 hg6)
          all_goals
            clear hwk
            have HG6 := As.mk hg6
            have hc6 := hg6.cell (Ext.cell (Ext.drew (Ext.refl w5)) xb0) (by intro h; injection h with h; exact hxg h.symm)
            have hc7 := hg6.cell (Ext.cell (Ext.drew (Ext.refl w5)) xb1) (by intro h; injection h with h; exact hxg h.symm)
            have hsz6 : w.heap.size < w6.heap.size := cell_lt hc6
            obtain ⟨ys, hys⟩ : ∃ ys : List GT, ys = (ts ++ [(⟨[], 0, 0⟩ : GT)]).take (k + 1) ++ ((ts ++ [(⟨[], 0, 0⟩ : GT)]).drop k).take (ts.length - k) ++ (ts ++ [(⟨[], 0, 0⟩ : GT)]).drop (k + 1 + (ts.length - k)) := ⟨_, rfl⟩
            rw [← hys] at hown6
            have hyl : ys.length = ts.length + 1 := by rw [hys]; simp only [List.length_append, List.length_take, List.length_drop, List.length_singleton]; omega
            have HYL : As (k < ys.length) := ⟨by omega⟩
            have HSH : As (ys.set k (newT x) = ts.take k ++ newT x :: ts.drop k) := ⟨by rw [hys]; exact shift_set (by omega)⟩
            obtain ⟨y, hy⟩ : ∃ y, ys[k]? = some y := ⟨_, List.getElem?_eq_getElem HYL.out⟩
            obtain ⟨Ay, dy, _, _, _, k0, k1, k2, l0, l1, l2⟩ := hown6.tot hy
            have HO6 := As.mk hown6
            have HB6 := As.mk hb6
            clear hys hyl hy
            clear xb0 xb1 hg6 hown6 hb6
            go_wp2_with fail
            go_ret
            have hS := HO6.out.set3 (j := k) (x := newT x) HYL.out HNT4.out ⟨rfl, rfl, rfl⟩
            rw [HSH.out] at hS
            rw [HI.out]
            exact PutTPost.of HBB4.out hbz4 hBb hS.1 (HB6.out.grown hS.2 (Nat.le_trans hbz4 HB6.out.size) fun k hk => by injection hk with hk; omega)
      · have hkd : decide ((k : Int) < (ts.length : Int)) = false := decide_eq_false (by omega)
        have hkd2 : decide (k < ts.length) = false := decide_eq_false (by omega)
        have HI : As (insT ts x = ts.take k ++ newT x :: ts.drop k) := ⟨by
          have e : k = ts.length := by omega
          subst e
          rw [insT_end HL.out]; simp⟩
        have hE0 : Ext wr wr := Ext.refl _
        go_wp2_with fail
        (refine wp_region_quiet_grown (by assumption) (by kernel_rfl) ?_; (repeat (go_big_quiet_step ( fail ))); refine wpQuiet_nil ?_; intro _ hw'; obtain ⟨⟨nq, osq⟩, hw''⟩ := hw'; subst hw'')
        have hE4 : Ext wr (grow (wr.drewN nq) osq) := ⟨nq, osq, rfl⟩
        generalize grow (wr.drewN nq) osq = w4 at *
        clear gb0 gb1 hE0
        have HB4 : As (Below w.heap.size w w4) := ⟨HBW.out.trans (hE4.below.mono hsz0)⟩
        have HOW4 : As (OwnL 3 (ET w4 (Old B)) 140 w4 base (.slice Av ts.length cv) ts) := ⟨(HOW.out.below hE4.below).imp fun _ _ h => ET.mv h (Stays.below hE4.below _)⟩
        replace xb0 := hE4.cell xb0
        replace xb1 := hE4.cell xb1
        have HNT4 := As.mk (HNT.out.mv (Stays.below hE4.below _))
        have hsz4 : w.heap.size < w4.heap.size := cell_lt xb0
        have hbz4 : base ≤ w4.heap.size := by omega
        have HBB4 : As (Below base w w4) := ⟨HB4.out.mono hbw⟩
        have HLZ : As (ts.length < 4294967296) := ⟨by omega⟩
        have HNO : As ((Value.slice Av ts.length cv).ownBlock ≠ some w.heap.size) := ⟨fun h => by have := (HOWN.out.lt _ h).2; omega⟩
        clear hE4 hfw
        go_wp2_with (at_builtin; go_loud (refine OwnL.append (W := w4) base rfl (.tmp 68) (.tmp 70) 137 140 _ 3 40 rfl Tryz.underlying137 info_total rfl (by decide) (by decide) (.slice Av ts.length cv) ts ⟨[], 0, 0⟩ [.slice none 0 0, .int .i64 0, .int .i64 0] rfl rfl (E := ET w4 (Old B)) ⟨_, rfl, ⟨by decide, by decide⟩, ⟨by decide, by decide⟩, RdL.nil _ _ _ _⟩ rfl (by simp [Value.oneCell']) HOW4.out HBB4.out hbz4 HLZ.out rfl ?_); intro v5 w5 hown5 hb5 hg5 hat5)
        obtain ⟨g1, c1, hv5, hg1, hg1s, hc1, how5⟩ := hown5.addr (by simp)
        rw [List.length_append, List.length_singleton] at hv5 hc1
        subst hv5
        have hxb : some w.heap.size ≠ Value.ownBlock (.slice Av ts.length cv) := fun h => HNO.out h.symm
        have hxg : g1 ≠ w.heap.size := by
          rcases hat5 with h | ⟨b, h, hb⟩
          · intro e
            rw [how5, e] at h
            exact hxb h
          · rw [how5] at h
            injection h with h
            omega
        replace xb0 := hg5.cell xb0 hxb
        replace xb1 := hg5.cell xb1 hxb
        have hsz5 : w.heap.size < w5.heap.size := cell_lt xb0
        obtain ⟨it, hit, hitz⟩ := Option.map_eq_some_iff.1 info_total
        simp only [Prod.mk.injEq] at hitz
        have HG5 := As.mk hg5
        have HB5 : As (Below base w4 w5.drew) := ⟨(((Below.refl _ _).grown HG5.out hbz4 fun k hk => (HOW4.out.lt k hk).1)).trans ((Ext.drew (Ext.refl w5)).below.mono (Nat.le_trans hbz4 HG5.out.size))⟩
        have HMM : As (ts.length - k = Nat.min (ts.length + 1 - k) (ts.length - k)) := ⟨by show _ = min _ _; omega⟩
        have HM1 : As (k + 1 + (ts.length - k) ≤ (ts ++ [(⟨[], 0, 0⟩ : GT)]).length) := ⟨by rw [List.length_append, List.length_singleton]; omega⟩
        have HM2 : As (k + (ts.length - k) ≤ (ts ++ [(⟨[], 0, 0⟩ : GT)]).length) := ⟨by rw [List.length_append, List.length_singleton]; omega⟩
        have HDD : As (0 < ts.length - k → ¬ c1 = k + 1) := ⟨fun h => by omega⟩
        have HSS : As (0 < ts.length - k → ¬ c1 = k) := ⟨fun h => by omega⟩
        have hwk1 : (0 : Int) ≤ (k : Int) + 1 := by omega
        have hwk4 : (k : Int) ≤ (ts.length : Int) + 1 := by omega
        have hwk : IntKind.i64.wrap ((k : Int) + 1) = (k : Int) + 1 := by rw [IntKind.wrap_i64]; omega
        have HO5 : As (OwnL 3 (ET w4 (Old B)) 140 w5.drew base (.slice (some ⟨g1, 0, none⟩) (ts.length + 1) c1) (ts ++ [⟨[], 0, 0⟩])) := ⟨hown5.ext (Ext.drew (Ext.refl _))⟩
        have HIT := As.mk hit
        have HITS := As.mk hitz.2.1
        clear hown5 hb5 hg5 hat5 hit hitz how5
        go_wp2_with fail
        go_region_law (go_loud (refine OwnL.copy_step (w := w5.drew) base rfl (.tmp 75) (.tmp 78) 137 140 it rfl Tryz.underlying137 HIT.out HITS.out g1 (ts.length + 1) c1 (ts ++ [⟨[], 0, 0⟩]) (k + 1) k (ts.length - k) (if c1 = k + 1 then some ⟨g1, 0, none⟩ else some ⟨g1, (k + 1) * 3, none⟩) (if c1 = k then some ⟨g1, 0, none⟩ else some ⟨g1, k * 3, none⟩) (ts.length - k) (c1 - (k + 1)) (ts.length + 1 - k) (c1 - k) (by go_simp) (fun h => if_neg (HDD.out h)) (by go_simp) (fun h => if_neg (HSS.out h)) HMM.out HM1.out HM2.out HO5.out HB5.out ?_); intro w6 hown6 hb6 hg6)
        all_goals
          clear hwk
          have HG6 := As.mk hg6
          have hc6 := hg6.cell (Ext.cell (Ext.drew (Ext.refl w5)) xb0) (by intro h; injection h with h; exact hxg h.symm)
          have hc7 := hg6.cell (Ext.cell (Ext.drew (Ext.refl w5)) xb1) (by intro h; injection h with h; exact hxg h.symm)
          have hsz6 : w.heap.size < w6.heap.size := cell_lt hc6
          obtain ⟨ys, hys⟩ : ∃ ys : List GT, ys = (ts ++ [(⟨[], 0, 0⟩ : GT)]).take (k + 1) ++ ((ts ++ [(⟨[], 0, 0⟩ : GT)]).drop k).take (ts.length - k) ++ (ts ++ [(⟨[], 0, 0⟩ : GT)]).drop (k + 1 + (ts.length - k)) := ⟨_, rfl⟩
          rw [← hys] at hown6
          have hyl : ys.length = ts.length + 1 := by rw [hys]; simp only [List.length_append, List.length_take, List.length_drop, List.length_singleton]; omega
          have HYL : As (k < ys.length) := ⟨by omega⟩
          have HSH : As (ys.set k (newT x) = ts.take k ++ newT x :: ts.drop k) := ⟨by rw [hys]; exact shift_set (by omega)⟩
          obtain ⟨y, hy⟩ : ∃ y, ys[k]? = some y := ⟨_, List.getElem?_eq_getElem HYL.out⟩
          obtain ⟨Ay, dy, _, _, _, k0, k1, k2, l0, l1, l2⟩ := hown6.tot hy
          have HO6 := As.mk hown6
          have HB6 := As.mk hb6
          clear hys hyl hy
          clear xb0 xb1 hg6 hown6 hb6
          go_wp2_with fail
          all_goals
            try ((have hcz : c1 = k + 1 := (by assumption)); subst hcz)
            go_ret
            have hS := HO6.out.set3 (j := k) (x := newT x) HYL.out HNT4.out ⟨rfl, rfl, rfl⟩
            rw [HSH.out] at hS
            rw [HI.out]
            exact PutTPost.of HBB4.out hbz4 hBb hS.1 (HB6.out.grown hS.2 (Nat.le_trans hbz4 HB6.out.size) fun k hk => by injection hk with hk; omega)
end Go.Proofs.YtmpndmjfdijamaaGreatDoor
