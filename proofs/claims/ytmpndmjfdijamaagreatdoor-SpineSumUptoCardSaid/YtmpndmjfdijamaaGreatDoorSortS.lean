/- The walk of slices.SortStableFunc at entries, over a call's own slice. -/
import Derived.Test.YtmpndmjfdijamaaGreatDoorStable
set_option linter.unusedVariables false
set_option linter.unusedSimpArgs false
namespace Go.Proofs.YtmpndmjfdijamaaGreatDoor
open Go.RowKit Go.Sort Go.Shelf Go.Lib
theorem sortStable_nil (A : Option Addr) (c : Nat) (w : World) : Calls Tryz.prog 83 #[.slice A 0 c, .func (.func 52) #[] #[]] w fun e w' => e = .returned (.tuple #[]) ∧ w = w' := by
  have h1 : Calls Tryz.prog 126 #[.slice A 0 c, .int .i64 0, .int .i64 0, .func (.func 52) #[] #[]] w fun e w' => e = .returned (.tuple #[]) ∧ w = w' := by
    go_enter Tryz.func126, Tryz.ntmps126
    go_wp2_with fail
    go_loopg [8] 0 (fun g s8 wr => s8 = .int .i64 1 ∧ w = wr)
    case atStart => exact ⟨rfl, rfl⟩
    case round =>
      obtain ⟨rfl, rfl⟩ := hrel
      go_wp2
      go_end0
      exact ⟨rfl, rfl⟩
  have h2 : Calls Tryz.prog 111 #[.slice A 0 c, .int .i64 0, .func (.func 52) #[] #[]] w fun e w' => e = .returned (.tuple #[]) ∧ w = w' := by
    go_enter Tryz.func111, Tryz.ntmps111
    go_wp2_with fail
    go_loopg [7, 8] 0 (fun g s7 s8 wr => s7 = .int .i64 0 ∧ s8 = .int .i64 20 ∧ w = wr)
    case atStart => exact ⟨rfl, rfl, rfl⟩
    case round =>
      obtain ⟨rfl, rfl, rfl⟩ := hrel
      go_wp2_with (go_at_call 126; refine h1.mono ?_; rintro e w1 ⟨rfl, rfl⟩)
      go_loopg [6, 7, 8, 9] 0 (fun g s6 _ _ _ wr => s6 = .int .i64 20 ∧ w = wr)
      case atStart => exact ⟨rfl, rfl⟩
      case round =>
        obtain ⟨rfl, rfl⟩ := hrel
        go_wp2
        go_end0
        exact ⟨rfl, rfl⟩
  go_enter Tryz.func83, Tryz.ntmps83
  go_wp2_with (go_at_call 111; refine h2.mono ?_; rintro e w1 ⟨rfl, rfl⟩)
  go_end0
  exact ⟨rfl, rfl⟩
set_option maxRecDepth 100000 in
theorem sortStable_any (base : Nat) (v : Value) (xs : List GE) (ok : Blk) (w : World) (h : OwnL 2 (EE w ok) 47 w base v xs) (hs : ∀ x ∈ xs, rsound x.row = true) (hok : ∀ k, ¬ ok k 47 ∨ ∀ cells, w.heap[k]? ≠ some (.cells cells 47 (0, 0)) ∨ v.ownBlock ≠ some k) :
    Calls Tryz.prog 83 #[v, .func (.func 52) #[] #[]] w fun e w' => e = .returned (.tuple #[]) ∧ w.grownBy w' v.ownBlock ∧
      ∃ xs', xs'.Perm xs ∧ (xs'.Pairwise fun x y => ¬ rlex y.row x.row < 0) ∧ ∀ ok', (∀ k, base ≤ k → ok' k 47) → RdL 2 (EE w ok) w' ok' v xs' := by
  by_cases hne : xs = []
  · subst hne
    obtain ⟨A, c, rfl, _⟩ := h.shape
    refine (sortStable_nil A c w).mono fun e w' ⟨he, hw⟩ => ⟨he, ?_, [], List.Perm.refl _, List.Pairwise.nil, fun ok' hok' => ?_⟩
    · subst hw
      exact ⟨rfl, rfl, rfl, Nat.le_refl _, fun _ _ _ => rfl⟩
    · subst hw
      exact h.rd hok'
  have hne : 0 < xs.length := List.length_pos_iff.2 hne
  have h := h.and (P := fun x => rsound x.row = true) hs
  have h0 := h
  obtain ⟨cs, ho, hr, h1, hl⟩ := h
  rcases ho.2 with ⟨_, hn⟩ | ⟨g, cap, cur, rfl, hg, hh, hc, hcm, hs, ht⟩
  · omega
  obtain ⟨dl, hd1, hd2⟩ := own_cels (by decide) h0 hne
  have hE : ∀ x cs, (EE w ok x cs ∧ rsound x.row = true) → cs.length = 2 ∧ ∀ u ∈ cs, u.oneCell' = true := by
    rintro x cs ⟨⟨v, rfl, _, hv⟩, _⟩
    obtain ⟨A, d, rfl, _⟩ := hv.shape
    exact ⟨rfl, by simp [Value.oneCell']⟩
  have hdl : dl.length = xs.length := by have := congrArg List.length hd1; simpa using this
  haveI : Inhabited (Cel fun x cs => EE w ok x cs ∧ rsound x.row = true) := ⟨dl[0]'(by omega)⟩
  have hH := holds_cels (fun x cs h => (hE x cs h).1) hh hd2
  have hO : SWO (ltOf fun (p q : Cel fun x cs => EE w ok x cs ∧ rsound x.row = true) => rlex (celX p).row (celX q).row) := (rlex_cmp.comap fun p : Cel fun x cs => EE w ok x cs ∧ rsound x.row = true => (celX p).row).swo
  have hgs := (Array.getElem?_eq_some_iff.1 hh).1
  have hsh : ∀ p : Cel (fun x cs => EE w ok x cs ∧ rsound x.row = true), ∃ A n d, celEnc p = [.slice A n d, .int .i64 (celX p).w] ∧ n = (celX p).row.length ∧ RdV w ok (.slice A n d) (celX p).row := fun p => by
    obtain ⟨⟨v, hc, _, hx⟩, _⟩ := p.2
    obtain ⟨A, d, rfl, _⟩ := hx.shape
    exact ⟨A, _, d, hc, rfl, hx⟩
  have hP : Pairs (celEnc (E := fun x cs => EE w ok x cs ∧ rsound x.row = true)) := fun p => by
    obtain ⟨A, n, d, h, _⟩ := hsh p
    exact ⟨A, n, d, _, h⟩
  have hcmp : CmpLays Tryz.prog 52 #[] (celEnc (E := fun x cs => EE w ok x cs ∧ rsound x.row = true)) 2 (fun p q => rlex (celX p).row (celX q).row) g 0 dl.toArray.size w := by
    intro m os dk _ p q
    obtain ⟨A, n, c, h1, rfl, h3⟩ := hsh p
    obtain ⟨B, m', d, h2, rfl, h4⟩ := hsh q
    rw [h1, h2]
    have hrl : rcmp (celX p).row (celX q).row = rlex (celX p).row (celX q).row := rcmp_lex p.2.2 q.2.2
    have hst : Stays w (sortWorldK celEnc 2 w g 0 m dk os) ok AnyB := (Stays.grown (sortedK_grown dk) ok fun k t cells fr hk hh' ho => by
      injection hk with hk
      subst hk
      have e := tag_eq hh hh'
      subst e
      rcases hok g with h | h
      · exact h ho
      · rcases h cur with h | h
        · exact h hh
        · exact h rfl).trans (Stays.any _ _)
    exact (byRow_any A B c d (celX p).w (celX q).w (celX p).row (celX q).row _ (h3.mv hst) (h4.mv hst)).mono fun _ _ ⟨he, hw⟩ => ⟨by rw [he, hrl], hw⟩
  have hsz : dl.toArray.size = xs.length := by simpa using hdl
  have R : RowK (celEnc (E := fun x cs => EE w ok x cs ∧ rsound x.row = true)) 2 w g 0 dl.toArray := ⟨fun p => (hE _ _ p.2).1, fun p => (hE _ _ p.2).2, hH, hgs⟩
  have hS := stable_any hP R hcmp hO cap (by omega)
  rw [hsz] at hS
  have HEE := As.mk hE
  have HD1 := As.mk hd1
  have HHH := As.mk hh
  have HH := As.mk hH
  have HSZ := As.mk hsz
  clear hP R hcmp hO hH hh hd1 hd2 hsh hE h0 ho hr h1 ht hs hok hdl hsz
  go_enter Tryz.func83, Tryz.ntmps83
  go_wp2_with fail
  refine hS.mono ?_
  rintro e w' ⟨rfl, d', hw, hsd, hp, hso⟩
  have HF := As.mk (And.intro hw (And.intro hsd (And.intro hp hso)))
  clear hS hw hsd hp hso
  go_wp2_with fail
  go_end0
  obtain ⟨⟨n, os, rfl⟩, hsd, hp, hso⟩ := HF.out
  have hp' : PermIn 0 dl.toArray.size dl.toArray d' := by rw [HSZ.out]; exact hp
  refine ⟨rfl, sortedK_grown d', d'.toList.map celX, ?_, ?_, fun ok' hok' => ?_⟩
  · have := perm_cels (d := dl.toArray) (d' := d') hp'
    rw [← HD1.out]; simpa using this
  · refine (sorted_cels (d := dl.toArray) (cf := fun x y => rlex x.row y.row) hp'.1 ?_).imp fun h => Int.not_lt.1 h
    rw [HSZ.out]; exact hso
  · have hsz : d'.size = xs.length := hp'.1.trans HSZ.out
    have := sortedK_rd (n := n) (os := os) (cap := cap) HEE.out dl.toArray d' HHH.out HH.out hp'.1 (by omega) (by omega) (hok' g hg)
    rw [hsz] at this
    exact RdL.move this (fun _ _ h => h.1) (Stays.mono fun _ _ h => h)
end Go.Proofs.YtmpndmjfdijamaaGreatDoor
