/- The sort of entries: slices.SortFunc over the shelf's pdqsort. -/
import Derived.Test.YtmpndmjfdijamaaGreatDoorTotal
import Derived.Test.YtmpndmjfdijamaaGreatDoorCmp
import Derived.Test.YtmpndmjfdijamaaGreatDoorZs
import Derived.Shelf.SlSortCmp.WholeK
set_option linter.unusedVariables false
set_option linter.unusedSimpArgs false
namespace Go.Proofs.YtmpndmjfdijamaaGreatDoor
open Go.RowKit Go.Sort
theorem entries1_any (A B : Option Addr) (n m c d : Nat) (wa wb : Int) (r s : List GV) (w : World) (hr : RdV w AnyB (.slice A n c) r) (hs : RdV w AnyB (.slice B m d) s) :
    Calls Tryz.prog 77 #[.agg #[.slice A n c, .int .i64 wa], .agg #[.slice B m d, .int .i64 wb]] w fun e w' => e = .returned (.int .i64 (rcmp r s)) ∧ Ext w w' := by
  have h1 := fun W (hE : Ext w W) => rCompare_any _ _ r s W (hr.ext hE.below) (hs.ext hE.below)
  clear hr hs
  go_enter Tryz.func77, Tryz.ntmps77
  go_wp2_with (go_at_call 78; refine (h1 _ (by repeat (first | (with_reducible exact Ext.refl _) | (with_reducible assumption) | (with_reducible apply Ext.alloc) | (with_reducible apply Ext.drewN) | (with_reducible apply Ext.drew) | (with_reducible apply Ext.grow) | (with_reducible refine Ext.trans ?_ (by with_reducible assumption))))).mono ?_; rintro e w3 ⟨rfl, hE⟩)
  go_ret
  exact ⟨rfl, (by repeat (first | (with_reducible exact Ext.refl _) | (with_reducible assumption) | (with_reducible apply Ext.alloc) | (with_reducible apply Ext.drewN) | (with_reducible apply Ext.drew) | (with_reducible apply Ext.grow) | (with_reducible refine Ext.trans ?_ (by with_reducible assumption))))⟩
theorem enters_entries1 (args : Array Value) (w : World) : (callFunc 77 args).run Tryz.prog w = .ok (.enter 77 args) w := (enters_of Tryz.func77 (by kernel_rfl) rfl) args w
/-- An entry whose row is sound. -/
def EES (w : World) (ok : Blk) (x : GE) (cs : List Value) : Prop := EE w ok x cs ∧ rsound x.row = true
theorem OwnL.and {α : Type} {sz : Nat} {E : α → List Value → Prop} {P : α → Prop} {e : TypeId} {w : World} {base : Nat} {v : Value} {xs : List α} (h : OwnL sz E e w base v xs) (hP : ∀ x ∈ xs, P x) : OwnL sz (fun x cs => E x cs ∧ P x) e w base v xs := by
  obtain ⟨cs, ho, hr, h1, hl⟩ := h
  exact ⟨cs, ho, ⟨hr.1, fun j x hj => ⟨hr.2 j x hj, hP x (List.mem_of_getElem? hj)⟩⟩, h1, hl⟩
theorem bitsLen_any (n : Int) (w : World) (h0 : 0 ≤ n) (h1 : n ≤ 18446744073709551615) : Calls Tryz.prog 60 #[.int .u64 n] w fun e w' => e = .returned (.int .i64 (Lib.bitLen n.toNat : Nat)) ∧ w' = w :=
  Any.bits_Len (SlLaysF0.n15.bits (P := Tryz.prog) (ρ := Tryz.pdqEntries_ren) { Tryz.pdqEntries with }) n w h0 h1
set_option maxRecDepth 100000 in
theorem sortEntries_nil (w : World) : Calls Tryz.prog 76 #[.slice none 0 0, .func (.func 77) #[] #[]] w fun e w' => e = .returned (.tuple #[]) ∧ w = w' := by
  have h1 : Calls Tryz.prog 126 #[.slice none 0 0, .int .i64 0, .int .i64 0, .func (.func 77) #[] #[]] w fun e w' => e = .returned (.tuple #[]) ∧ w = w' := by
    go_enter Tryz.func126, Tryz.ntmps126
    go_wp2_with fail
    go_loopg [8] 0 (fun g s8 wr => s8 = .int .i64 1 ∧ w = wr)
    case atStart => exact ⟨rfl, rfl⟩
    case round =>
      obtain ⟨rfl, rfl⟩ := hrel
      go_wp2
      go_end0
      exact ⟨rfl, rfl⟩
  have h2 : Calls Tryz.prog 106 #[.slice none 0 0, .int .i64 0, .int .i64 0, .int .i64 0, .func (.func 77) #[] #[]] w fun e w' => e = .returned (.tuple #[]) ∧ w = w' := by
    go_enter Tryz.func106, Tryz.ntmps106
    go_wp2_with fail
    go_loopg [1, 2, 3, 10, 11] 0 (fun g s1 s2 s3 s10 s11 wr => s1 = .int .i64 0 ∧ s2 = .int .i64 0 ∧ w = wr)
    case atStart => exact ⟨rfl, rfl, rfl⟩
    case round =>
      obtain ⟨rfl, rfl, rfl⟩ := hrel
      go_wp2_with (go_at_call 126; refine h1.mono ?_; rintro e w1 ⟨rfl, rfl⟩)
      refine bodyPost_ret (results_none rfl _ _ _) rfl ?_
      exact ⟨rfl, rfl⟩
  go_enter Tryz.func76, Tryz.ntmps76
  go_wp2_with (first | (go_at_call 60; refine (bitsLen_any 0 _ (by decide) (by decide)).mono ?_; rintro e w1 ⟨rfl, rfl⟩) | (go_at_call 106; refine h2.mono ?_; rintro e w1 ⟨rfl, rfl⟩))
  go_end0
  exact ⟨rfl, rfl⟩
theorem sortEntries_any (base : Nat) (v : Value) (xs : List GE) (ok : Blk) (w : World) (h : OwnL 2 (EE w ok) 47 w base v xs) (hs : ∀ x ∈ xs, rsound x.row = true) (hnil : xs = [] → v = .slice none 0 0) (hok : ∀ k, ¬ ok k 47) :
    Calls Tryz.prog 76 #[v, .func (.func 77) #[] #[]] w fun e w' => e = .returned (.tuple #[]) ∧ w.grownBy w' v.ownBlock ∧
      ∃ xs', xs'.Perm xs ∧ (xs'.Pairwise fun x y => ¬ rlex y.row x.row < 0) ∧ ∀ ok', (∀ k, base ≤ k → ok' k 47) → RdL 2 (EE w ok) w' ok' v xs' := by
  by_cases hne : xs = []
  · rw [hnil hne]
    subst hne
    refine (sortEntries_nil w).mono fun e w' ⟨he, hw⟩ => ⟨he, ?_, [], List.Perm.refl _, List.Pairwise.nil, fun ok' _ => RdL.nil _ _ _ _⟩
    subst hw
    exact ⟨rfl, rfl, rfl, Nat.le_refl _, fun _ _ _ => rfl⟩
  have hne : 0 < xs.length := List.length_pos_iff.2 hne
  have h := h.and (P := fun x => rsound x.row = true) hs
  have h0 := h
  obtain ⟨cs, ho, hr, h1, hl⟩ := h
  rcases ho.2 with ⟨_, hn⟩ | ⟨g, cap, cur, rfl, hg, hh, hc, hcm, hs, ht⟩
  · omega
  obtain ⟨dl, hd1, hd2⟩ := own_cels (by decide) h0 hne
  have hE : ∀ x cs, (EE w ok x cs ∧ rsound x.row = true) → cs.length = 2 ∧ ∀ u ∈ cs, u.oneCell' = true := by
    rintro x cs ⟨⟨v, rfl, _, hv⟩, _⟩
    obtain ⟨A, d, rfl, _⟩ := hv.shape
    exact ⟨rfl, by simp [Value.oneCell']⟩
  have hdl : dl.length = xs.length := by have := congrArg List.length hd1; simpa using this
  haveI : Inhabited (Cel fun x cs => EE w ok x cs ∧ rsound x.row = true) := ⟨dl[0]'(by omega)⟩
  have hH := holds_cels (fun x cs h => (hE x cs h).1) hh hd2
  have hO : SWO (ltOf fun (p q : Cel fun x cs => EE w ok x cs ∧ rsound x.row = true) => rlex (celX p).row (celX q).row) := (rlex_cmp.comap fun p : Cel fun x cs => EE w ok x cs ∧ rsound x.row = true => (celX p).row).swo
  have hgs := (Array.getElem?_eq_some_iff.1 hh).1
  have hcmp : CmpLays Tryz.prog 77 #[] (celEnc (E := fun x cs => EE w ok x cs ∧ rsound x.row = true)) 2 (fun p q => rlex (celX p).row (celX q).row) g 0 dl.toArray.size w := by
    intro m os dk _ p q
    have hsh : ∀ p : Cel (fun x cs => EE w ok x cs ∧ rsound x.row = true), ∃ A n d, celEnc p = [.slice A n d, .int .i64 (celX p).w] ∧ RdV w ok (.slice A n d) (celX p).row := fun p => by
      obtain ⟨⟨v, hc, _, hx⟩, _⟩ := p.2
      obtain ⟨A, d, rfl, _⟩ := hx.shape
      exact ⟨A, _, d, hc, hx⟩
    obtain ⟨A, n, c, h1, h3⟩ := hsh p
    obtain ⟨B, m', d, h2, h4⟩ := hsh q
    rw [h1, h2]
    have hrl : rcmp (celX p).row (celX q).row = rlex (celX p).row (celX q).row := rcmp_lex p.2.2 q.2.2
    have hst : Stays w (sortWorldK celEnc 2 w g 0 m dk os) ok AnyB := (Stays.grown (sortedK_grown dk) ok fun k t cells fr hk hh' ho => by
      injection hk with hk
      subst hk
      rw [hh] at hh'
      injection hh' with hh'
      injection hh' with _ h2' _
      exact hok _ (h2' ▸ ho)).trans (Stays.any _ _)
    exact (entries1_any A B n m' c d (celX p).w (celX q).w (celX p).row (celX q).row _ (h3.mv hst) (h4.mv hst)).mono fun _ _ ⟨he, hw⟩ => ⟨by rw [he, hrl], hw⟩
  have hss : dl.toArray.size ≤ 4294967296 := by rw [show dl.toArray.size = dl.length by simp]; omega
  have hp := AnyQ.pdqsortCmpFunc_all (P := Tryz.prog) (ρ := Tryz.pdqEntries_ren) Tryz.pdqEntries 2 (fun w => Tryz.isAgg47 w) (fun w => Tryz.sizeOf47 w) (celEnc (E := fun x cs => EE w ok x cs ∧ rsound x.row = true)) _ 77 #[] hO g 0 cap dl.toArray w enters_entries1 hcmp ⟨fun p => (hE _ _ p.2).1, fun p => (hE _ _ p.2).2, hH, hgs⟩ (dl.toArray.size + 1) 0 dl.toArray.size (Lib.bitLen dl.toArray.size) dl.toArray w (by omega) rfl (SWK.start hH) (Nat.zero_le _) (Nat.le_refl _) (by omega) (Nat.lt_of_le_of_lt (Lib.bitLen_le dl.toArray.size 62 (by omega) (by omega)) (by decide)) (Or.inl rfl)
  have hpd := pdq_sorts _ hO dl.toArray 0 dl.toArray.size (Lib.bitLen dl.toArray.size) true true (Nat.zero_le _) (Nat.le_refl _) (Or.inl rfl)
  generalize pdq _ dl.toArray 0 dl.toArray.size (Lib.bitLen dl.toArray.size) true true = d' at hp hpd
  have hsd : dl.toArray.size = xs.length := by simpa using hdl
  rw [hsd] at hp
  have hb := fun W => bitsLen_any (xs.length : Int) W (by omega) (by omega)
  have wr : IntKind.u64.wrap (xs.length : Int) = xs.length := by simp [IntKind.wrap, IntKind.bits, IntKind.signed]; omega
  have HF : As (PermIn 0 dl.toArray.size dl.toArray d' ∧ SortedIn (ltOf fun (p q : Cel fun x cs => EE w ok x cs ∧ rsound x.row = true) => rlex (celX p).row (celX q).row) 0 dl.toArray.size d') := ⟨hpd⟩
  have HH := As.mk hH
  have HHH := As.mk hh
  have HD1 := As.mk hd1
  have HEE := As.mk hE
  have HSD := As.mk hsd
  clear hpd hH hh hd1 hE hd2 hcmp hO h0 ho hr h1 hs ht hsd h hnil
  simp only [Int.toNat_natCast] at hb
  have hp' : Calls Tryz.prog 106 #[.slice (some ⟨g, 0, none⟩) xs.length cap, .int .i64 0, .int .i64 xs.length, .int .i64 (Lib.bitLen xs.length : Nat), .func (.func 77) #[] #[]] w fun e w' => e = .returned (.tuple #[]) ∧ SWK celEnc 2 w g 0 d' w' := hp
  clear hp
  generalize Lib.bitLen xs.length = bl at *
  go_enter Tryz.func76, Tryz.ntmps76
  go_wp2_with (first | (go_at_call 60; refine (hb _).mono ?_; rintro e w1 ⟨rfl, rfl⟩) | (go_at_call 106; refine hp'.mono ?_; rintro e w1 ⟨rfl, hw⟩))
  go_end0
  obtain ⟨n, os, rfl⟩ := hw
  refine ⟨rfl, sortedK_grown d', d'.toList.map celX, ?_, ?_, fun ok' hok' => ?_⟩
  · have := perm_cels (d := dl.toArray) (d' := d') HF.out.1
    rw [← HD1.out]; simpa using this
  · exact (sorted_cels (d := dl.toArray) (cf := fun x y => rlex x.row y.row) HF.out.1.1 HF.out.2).imp fun h => Int.not_lt.1 h
  · have hsz : d'.size = xs.length := HF.out.1.1.trans HSD.out
    have := sortedK_rd (n := n) (os := os) (cap := cap) HEE.out dl.toArray d' HHH.out HH.out HF.out.1.1 (by omega) (by omega) (hok' g hg)
    rw [hsz] at this
    exact RdL.move this (fun _ _ h => h.1) (Stays.mono fun _ _ h => h)
end Go.Proofs.YtmpndmjfdijamaaGreatDoor
