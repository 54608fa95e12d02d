/- What a join's step gathers, and the plain law: it is the result's change. What a join's step gathers is fit for Make; what Make makes of it; all pairs; turned rows. -/
import Derived.Test.YtflckpfpgpfjlaaGreatDoorMMkLaw
set_option linter.unusedVariables false
set_option linter.unusedSimpArgs false
section
namespace Go.Proofs.YtflckpfpgpfjlaaGreatDoor
open Go.RowKit Go.Sort
/-- join.span -/
structure GSp where
  row : List GV
  before : Int
  now : Int
def keyOf (cols : List Int) (r : List GV) : List GV := (pick r cols).getD []
/-- join.times -/
def timesB (a b : Int) : Bool := decide (a < 0) || decide (b < 0) || decide (a * b ≤ 1099511627776)
def timesV (a b : Int) : Int := if a < 0 ∨ b < 0 then 0 else wrap64 (a * b)
/-- join.pairs.add -/
def out1 (a b : GSp) : List GE := if timesB a.now b.now = true ∧ timesV a.now b.now ≠ timesV a.before b.before then [⟨a.row ++ b.row, wrap64 (timesV a.now b.now - timesV a.before b.before)⟩] else []
def over1 (a b : GSp) : Bool := !timesB a.now b.now
/-- join.side.met -/
def metL (cols : List Int) (z d : List GE) (key : List GV) : List GSp :=
  ((z.filter fun y => keyIs cols key y.row).map fun y => ⟨y.row, y.w, wrap64 (y.w + zw d y.row)⟩) ++ ((d.filter fun y => sameR (keyOf cols y.row) key && decide (zw z y.row = 0)).map fun y => ⟨y.row, 0, y.w⟩)
/-- A changed row's span. -/
def spanOf (z : List GE) (x : GE) : GSp := ⟨x.row, zw z x.row, wrap64 (zw z x.row + x.w)⟩
def still (x : GE) : GSp := ⟨x.row, x.w, x.w⟩
/-- The rows on the left that a row of the right meets, and that don't change. -/
def calmL (cols : List Int) (a da : List GE) (key : List GV) : List GE := (a.filter fun x => keyIs cols key x.row).filter fun x => decide (zw da x.row = 0)
def outs1 (lc rc : List Int) (a b da db : List GE) : List GE := da.flatMap fun x => (metL rc b db (keyOf lc x.row)).flatMap (out1 (spanOf a x))
def outs2 (lc rc : List Int) (a b da db : List GE) : List GE := db.flatMap fun y => (calmL lc a da (keyOf rc y.row)).flatMap fun x => out1 (still x) (spanOf b y)
def over1s (lc rc : List Int) (a b da db : List GE) : Bool := da.any fun x => (metL rc b db (keyOf lc x.row)).any (over1 (spanOf a x))
def over2s (lc rc : List Int) (a b da db : List GE) : Bool := db.any fun y => (calmL lc a da (keyOf rc y.row)).any fun x => over1 (still x) (spanOf b y)

/-! ### The law -/
theorem zw_flat {α : Type} (l : List α) (f : α → List GE) (r : List GV) : zw (l.flatMap f) r = sumI (fun x => zw (f x) r) l := by
  induction l with
  | nil => rfl
  | cons x l ih => rw [List.flatMap_cons, zw_app, ih]; rfl
theorem sumI_zero {α : Type} {l : List α} {f : α → Int} (h : ∀ x ∈ l, f x = 0) : sumI f l = 0 := by
  induction l with
  | nil => rfl
  | cons x l ih =>
    show f x + sumI f l = 0
    rw [h x (by simp), ih fun y hy => h y (by simp [hy])]
    rfl
theorem sumI_map {α β : Type} (l : List α) (m : α → β) (f : β → Int) : sumI f (l.map m) = sumI (fun x => f (m x)) l := by
  induction l with
  | nil => rfl
  | cons x l ih =>
    show f (m x) + sumI f (l.map m) = f (m x) + sumI (fun x => f (m x)) l
    rw [ih]
theorem sumI_filter {α : Type} (l : List α) (p : α → Bool) (f : α → Int) : sumI f (l.filter p) = sumI (fun x => if p x = true then f x else 0) l := by
  induction l with
  | nil => rfl
  | cons x l ih =>
    show _ = (if p x = true then f x else 0) + _
    by_cases h : p x = true
    · rw [List.filter_cons_of_pos h, if_pos h, ← ih]; rfl
    · rw [List.filter_cons_of_neg h, if_neg h, ih, Int.zero_add]
theorem sumI_append {α : Type} (f : α → Int) (a b : List α) : sumI f (a ++ b) = sumI f a + sumI f b := sumI_app f a b
/-- A sum over a multiset's rows, at one row. -/
theorem sum_at {l : List GE} (h : ZOk l) (r : List GV) (f : List GV → Int → Int) : sumI (fun x => if sameR x.row r = true then f x.row x.w else 0) l = if zw l r = 0 then 0 else f r (zw l r) := by
  induction l with
  | nil => rfl
  | cons x l ih =>
    show (if sameR x.row r = true then f x.row x.w else 0) + sumI (fun x => if sameR x.row r = true then f x.row x.w else 0) l = _
    rw [ih h.tail]
    by_cases e : sameR x.row r = true
    · have e' := (sameR_eq _ _).1 e
      subst e'
      rw [if_pos e, h.head, if_pos rfl, zw_hit, h.head, Int.add_zero, Int.add_zero, if_neg (h.w x (by simp))]
    · rw [if_neg e, Int.zero_add, zw_miss l (fun e' => e ((sameR_eq _ _).2 e'))]
theorem app_inj {a b c d : List GV} (h : a.length = c.length) : a ++ b = c ++ d ↔ a = c ∧ b = d := by
  constructor
  · intro e; exact List.append_inj e h
  · rintro ⟨rfl, rfl⟩; rfl
theorem wrap_small {x : Int} (h1 : -9223372036854775808 ≤ x) (h2 : x ≤ 9223372036854775807) : wrap64 x = x := by unfold wrap64; omega
def jM : Int := 1099511627776
/-- Bags and their changes, as they must be. -/
structure JFit (lc rc : List Int) (wl wr : Nat) (a b da db : List GE) : Prop where
  za : ZOk a
  zb : ZOk b
  zda : ZOk da
  zdb : ZOk db
  aw : ∀ r, 0 ≤ zw a r ∧ zw a r ≤ 1099511627776
  bw : ∀ r, 0 ≤ zw b r ∧ zw b r ≤ 1099511627776
  a' : ∀ r, 0 ≤ zw a r + zw da r ∧ zw a r + zw da r ≤ 1099511627776
  b' : ∀ r, 0 ≤ zw b r + zw db r ∧ zw b r + zw db r ≤ 1099511627776
  al : ∀ x ∈ a, x.row.length = wl
  bl : ∀ x ∈ b, x.row.length = wr
  dal : ∀ x ∈ da, x.row.length = wl
  dbl : ∀ x ∈ db, x.row.length = wr
  lk : ∀ r, RowOk r → r.length = wl → ∃ k, pick r lc = some k
  rk : ∀ r, RowOk r → r.length = wr → ∃ k, pick r rc = some k
/-- Do two rows meet? -/
def meetK (lc rc : List Int) (p q : List GV) : Bool := sameR (keyOf lc p) (keyOf rc q)
/-- What two rows give in the result. -/
def jw (lc rc : List Int) (x y : Int) (p q : List GV) : Int := if meetK lc rc p q = true then x * y else 0
theorem zw_out1 (x y : GSp) {p q : List GV} (h : x.row.length = p.length) : zw (out1 x y) (p ++ q) = if (sameR x.row p && sameR y.row q && timesB x.now y.now) = true then wrap64 (timesV x.now y.now - timesV x.before y.before) else 0 := by
  unfold out1
  by_cases ho : timesB x.now y.now = true
  · by_cases hn : timesV x.now y.now = timesV x.before y.before
    · rw [if_neg (fun e => e.2 hn), hn, Int.sub_self]
      split
      · exact (wrap_small (x := 0) (by decide) (by decide)).symm
      · rfl
    · rw [if_pos ⟨ho, hn⟩, zw_cons, zw_nil, Int.add_zero]
      by_cases e : x.row = p ∧ y.row = q
      · have e1 := (sameR_eq _ _).2 e.1
        have e2 := (sameR_eq _ _).2 e.2
        have e3 : sameR (x.row ++ y.row) (p ++ q) = true := (sameR_eq _ _).2 (by rw [e.1, e.2])
        simp only [e1, e2, e3, ho]
        try rfl
      · have e3 : sameR (x.row ++ y.row) (p ++ q) = false := by
          cases hc : sameR (x.row ++ y.row) (p ++ q) with
          | false => rfl
          | true => exact absurd ((app_inj h).1 ((sameR_eq _ _).1 hc)) e
        have e4 : (sameR x.row p && sameR y.row q && timesB x.now y.now) = false := by
          cases h1 : sameR x.row p with
          | false => rfl
          | true =>
            cases h2 : sameR y.row q with
            | false => rfl
            | true => exact absurd ⟨(sameR_eq _ _).1 h1, (sameR_eq _ _).1 h2⟩ e
        simp only [e3, e4]
        try rfl
  · rw [if_neg (fun e => ho e.1), if_neg (by simp [ho])]; rfl
theorem times_fit {x y : Int} (hx : 0 ≤ x ∧ x ≤ 1099511627776) (hy : 0 ≤ y ∧ y ≤ 1099511627776) : timesB x y = decide (x * y ≤ 1099511627776) := by
  unfold timesB
  rw [decide_eq_false (by omega : ¬ x < 0), decide_eq_false (by omega : ¬ y < 0)]
  simp
theorem timesV_fit {x y : Int} (hx : 0 ≤ x) (hy : 0 ≤ y) (h : x * y ≤ 1099511627776) : timesV x y = x * y := by
  unfold timesV
  rw [if_neg (by omega)]
  exact wrap_small (by have := Int.mul_nonneg hx hy; omega) (by omega)
section
variable {lc rc : List Int} {wl wr : Nat} {a b da db : List GE}
theorem keyIs_of {cols : List Int} {r k : List GV} (h : pick r cols = some k) (key : List GV) : keyIs cols key r = sameR (keyOf cols r) key := by
  unfold keyIs keyOf
  rw [h]; rfl
theorem JFit.anow (h : JFit lc rc wl wr a b da db) (r : List GV) : wrap64 (zw a r + zw da r) = zw a r + zw da r := wrap_small (by have := (h.a' r).1; omega) (by have := (h.a' r).2; omega)
theorem JFit.bnow (h : JFit lc rc wl wr a b da db) (r : List GV) : wrap64 (zw b r + zw db r) = zw b r + zw db r := wrap_small (by have := (h.b' r).1; omega) (by have := (h.b' r).2; omega)
theorem JFit.span (h : JFit lc rc wl wr a b da db) {x : GE} (hx : x ∈ da) : spanOf a x = ⟨x.row, zw a x.row, zw a x.row + zw da x.row⟩ := by
  unfold spanOf
  have := h.anow x.row
  rw [h.zda.at hx] at *
  rw [this]
theorem JFit.spanb (h : JFit lc rc wl wr a b da db) {x : GE} (hx : x ∈ db) : spanOf b x = ⟨x.row, zw b x.row, zw b x.row + zw db x.row⟩ := by
  unfold spanOf
  have := h.bnow x.row
  rw [h.zdb.at hx] at *
  rw [this]
/-- What stands in metL: a row of the right, its weight ahead and behind. -/
theorem met_mem (h : JFit lc rc wl wr a b da db) {key : List GV} {y : GSp} : y ∈ metL rc b db key ↔ (∃ q, y = ⟨q, zw b q, zw b q + zw db q⟩ ∧ sameR (keyOf rc q) key = true ∧ (zw b q ≠ 0 ∨ zw db q ≠ 0) ∧ RowOk q ∧ q.length = wr) := by
  unfold metL
  rw [List.mem_append, List.mem_map, List.mem_map]
  constructor
  · rintro (⟨x, hx, rfl⟩ | ⟨x, hx, rfl⟩)
    · obtain ⟨h1, h2⟩ := List.mem_filter.1 hx
      obtain ⟨k, hk⟩ := h.rk x.row (h.zb.row x h1) (h.bl x h1)
      rw [keyIs_of hk] at h2
      refine ⟨x.row, ?_, h2, .inl (by rw [h.zb.at h1]; exact h.zb.w x h1), h.zb.row x h1, h.bl x h1⟩
      have := h.bnow x.row
      rw [h.zb.at h1] at *
      rw [this]
    · obtain ⟨h1, h2⟩ := List.mem_filter.1 hx
      rw [Bool.and_eq_true, decide_eq_true_eq] at h2
      refine ⟨x.row, ?_, h2.1, .inr (by rw [h.zdb.at h1]; exact h.zdb.w x h1), h.zdb.row x h1, h.dbl x h1⟩
      rw [h2.2, h.zdb.at h1, Int.zero_add]
  · rintro ⟨q, rfl, hk, hq, hok, hql⟩
    by_cases hb : zw b q = 0
    · have hd : zw db q ≠ 0 := hq.resolve_left (fun e => e hb)
      obtain ⟨x, hx, rfl⟩ := zw_mem hd
      refine .inr ⟨x, List.mem_filter.2 ⟨hx, by rw [hk, hb]; rfl⟩, ?_⟩
      rw [hb, h.zdb.at hx, Int.zero_add]
    · obtain ⟨x, hx, rfl⟩ := zw_mem hb
      obtain ⟨k, hk'⟩ := h.rk x.row hok hql
      refine .inl ⟨x, List.mem_filter.2 ⟨hx, by rw [keyIs_of hk']; exact hk⟩, ?_⟩
      have := h.bnow x.row
      rw [h.zb.at hx] at *
      rw [this]
theorem calm_mem (h : JFit lc rc wl wr a b da db) {key : List GV} {x : GE} : x ∈ calmL lc a da key ↔ x ∈ a ∧ sameR (keyOf lc x.row) key = true ∧ zw da x.row = 0 := by
  unfold calmL
  rw [List.mem_filter, List.mem_filter, decide_eq_true_eq]
  constructor
  · rintro ⟨⟨h1, h2⟩, h3⟩
    obtain ⟨k, hk⟩ := h.lk x.row (h.za.row x h1) (h.al x h1)
    rw [keyIs_of hk] at h2
    exact ⟨h1, h2, h3⟩
  · rintro ⟨h1, h2, h3⟩
    obtain ⟨k, hk⟩ := h.lk x.row (h.za.row x h1) (h.al x h1)
    exact ⟨⟨h1, by rw [keyIs_of hk]; exact h2⟩, h3⟩
/-- A pair whose product is too great. -/
def Vast (lc rc : List Int) (wl wr : Nat) (a b da db : List GE) : Prop := ∃ p q, RowOk p ∧ RowOk q ∧ p.length = wl ∧ q.length = wr ∧ keyOf lc p = keyOf rc q ∧ 1099511627776 < (zw a p + zw da p) * (zw b q + zw db q)
theorem over_vast (h : JFit lc rc wl wr a b da db) (ho : over1s lc rc a b da db = true ∨ over2s lc rc a b da db = true) : Vast lc rc wl wr a b da db := by
  rcases ho with ho | ho
  · unfold over1s at ho
    obtain ⟨x, hx, ho⟩ := List.any_eq_true.1 ho
    obtain ⟨y, hy, ho⟩ := List.any_eq_true.1 ho
    obtain ⟨q, rfl, hk, hq, hok, hql⟩ := (met_mem h).1 hy
    unfold over1 at ho
    rw [h.span hx, times_fit (h.a' _) (h.b' _), Bool.not_eq_true', decide_eq_false_iff_not] at ho
    exact ⟨x.row, q, h.zda.row x hx, hok, h.dal x hx, hql, ((sameR_eq _ _).1 hk).symm, by omega⟩
  · unfold over2s at ho
    obtain ⟨y, hy, ho⟩ := List.any_eq_true.1 ho
    obtain ⟨x, hx, ho⟩ := List.any_eq_true.1 ho
    obtain ⟨h1, hk, h2⟩ := (calm_mem h).1 hx
    unfold over1 still at ho
    have hw := h.aw x.row
    rw [h.za.at h1] at hw
    rw [h.spanb hy, times_fit hw (h.b' _), Bool.not_eq_true', decide_eq_false_iff_not] at ho
    refine ⟨x.row, y.row, h.za.row x h1, h.zdb.row y hy, h.al x h1, h.dbl y hy, (sameR_eq _ _).1 hk, ?_⟩
    rw [h2, h.za.at h1, Int.add_zero]
    omega
theorem vast_over (h : JFit lc rc wl wr a b da db) (hold : ∀ p q, RowOk p → RowOk q → p.length = wl → q.length = wr → keyOf lc p = keyOf rc q → zw a p * zw b q ≤ 1099511627776) (hv : Vast lc rc wl wr a b da db) : over1s lc rc a b da db = true ∨ over2s lc rc a b da db = true := by
  obtain ⟨p, q, hp, hq, hpl, hql, hk, hm⟩ := hv
  by_cases hd : zw da p = 0
  · right
    have hdb : zw db q ≠ 0 := fun e => by
      have := hold p q hp hq hpl hql hk
      rw [hd, e, Int.add_zero, Int.add_zero] at hm
      omega
    have ha : zw a p ≠ 0 := fun e => by
      rw [hd, e, Int.add_zero, Int.zero_mul] at hm
      omega
    obtain ⟨y, hy, rfl⟩ := zw_mem hdb
    obtain ⟨x, hx, rfl⟩ := zw_mem ha
    unfold over2s
    refine List.any_eq_true.2 ⟨y, hy, List.any_eq_true.2 ⟨x, (calm_mem h).2 ⟨hx, (sameR_eq _ _).2 hk, hd⟩, ?_⟩⟩
    unfold over1 still
    have hw := h.aw x.row
    rw [h.za.at hx] at hw
    rw [h.spanb hy, times_fit hw (h.b' _), Bool.not_eq_true', decide_eq_false_iff_not]
    rw [hd, h.za.at hx, Int.add_zero] at hm
    omega
  · left
    obtain ⟨x, hx, rfl⟩ := zw_mem hd
    have hb : zw b q ≠ 0 ∨ zw db q ≠ 0 := by
      by_cases e1 : zw b q = 0
      · right
        intro e2
        rw [e1, e2, Int.add_zero, Int.mul_zero] at hm
        omega
      · exact .inl e1
    unfold over1s
    refine List.any_eq_true.2 ⟨x, hx, List.any_eq_true.2 ⟨⟨q, zw b q, zw b q + zw db q⟩, (met_mem h).2 ⟨q, rfl, (sameR_eq _ _).2 hk.symm, hb, hq, hql⟩, ?_⟩⟩
    unfold over1
    rw [h.span hx, times_fit (h.a' _) (h.b' _), Bool.not_eq_true', decide_eq_false_iff_not]
    omega
/-- No pair is too great, ahead of the step and behind it. -/
structure JOk (lc rc : List Int) (wl wr : Nat) (a b da db : List GE) : Prop where
  fit : JFit lc rc wl wr a b da db
  old : ∀ p q, RowOk p → RowOk q → p.length = wl → q.length = wr → keyOf lc p = keyOf rc q → zw a p * zw b q ≤ 1099511627776
  new : ∀ p q, RowOk p → RowOk q → p.length = wl → q.length = wr → keyOf lc p = keyOf rc q → (zw a p + zw da p) * (zw b q + zw db q) ≤ 1099511627776
/-- How the result changes at a pair. -/
def jD (a b da db : List GE) (p q : List GV) : Int := (zw a p + zw da p) * (zw b q + zw db q) - zw a p * zw b q
theorem JOk.small (h : JOk lc rc wl wr a b da db) {p q : List GV} (hp : RowOk p) (hq : RowOk q) (hpl : p.length = wl) (hql : q.length = wr) (hk : keyOf lc p = keyOf rc q) : wrap64 (jD a b da db p q) = jD a b da db p q ∧ -1099511627776 ≤ jD a b da db p q ∧ jD a b da db p q ≤ 1099511627776 := by
  have h1 := h.old p q hp hq hpl hql hk
  have h2 := h.new p q hp hq hpl hql hk
  have h3 := Int.mul_nonneg (h.fit.aw p).1 (h.fit.bw q).1
  have h4 := Int.mul_nonneg (h.fit.a' p).1 (h.fit.b' q).1
  unfold jD
  refine ⟨wrap_small (by omega) (by omega), by omega, by omega⟩
/-- One pair's entry. -/
theorem JOk.out (h : JOk lc rc wl wr a b da db) {p q : List GV} (hp : RowOk p) (hq : RowOk q) (hpl : p.length = wl) (hql : q.length = wr) (hk : keyOf lc p = keyOf rc q) {x y : GSp} (hx : x = ⟨p, zw a p, zw a p + zw da p⟩) (hy : y = ⟨q, zw b q, zw b q + zw db q⟩) :
    zw (out1 x y) (p ++ q) = jD a b da db p q := by
  subst hx hy
  have h1 : sameR p p = true := (sameR_eq _ _).2 rfl
  have h2 : sameR q q = true := (sameR_eq _ _).2 rfl
  have h3 : timesB (zw a p + zw da p) (zw b q + zw db q) = true := by rw [times_fit (h.fit.a' p) (h.fit.b' q)]; exact decide_eq_true (h.new p q hp hq hpl hql hk)
  rw [zw_out1 _ _ rfl, if_pos (by simp only [h1, h2, h3]; rfl)]
  rw [timesV_fit (h.fit.a' p).1 (h.fit.b' q).1 (h.new p q hp hq hpl hql hk), timesV_fit (h.fit.aw p).1 (h.fit.bw q).1 (h.old p q hp hq hpl hql hk)]
  exact (h.small hp hq hpl hql hk).1
theorem zw_out0 {x y : GSp} {p q : List GV} (h : x.row.length = p.length) (hne : x.row ≠ p ∨ y.row ≠ q) : zw (out1 x y) (p ++ q) = 0 := by
  rw [zw_out1 _ _ h, if_neg]
  rw [Bool.and_eq_true, Bool.and_eq_true]
  rintro ⟨⟨h1, h2⟩, _⟩
  rcases hne with h3 | h3
  · exact h3 ((sameR_eq _ _).1 h1)
  · exact h3 ((sameR_eq _ _).1 h2)
/-- The rows that one changed row of the left meets. -/
theorem JOk.met (h : JOk lc rc wl wr a b da db) {p q : List GV} (hp : RowOk p) (hq : RowOk q) (hpl : p.length = wl) (hql : q.length = wr) {x : GSp} (hx : x = ⟨p, zw a p, zw a p + zw da p⟩) :
    zw ((metL rc b db (keyOf lc p)).flatMap (out1 x)) (p ++ q) = if meetK lc rc p q = true then jD a b da db p q else 0 := by
  have hxl : x.row.length = p.length := by rw [hx]
  obtain ⟨k, hk⟩ := h.fit.rk q hq hql
  unfold metL
  rw [List.flatMap_append, zw_app, zw_flat, zw_flat, sumI_map, sumI_map, sumI_filter, sumI_filter]
  have e1 : sumI (fun y : GE => if keyIs rc (keyOf lc p) y.row = true then zw (out1 x ⟨y.row, y.w, wrap64 (y.w + zw db y.row)⟩) (p ++ q) else 0) b = sumI (fun y : GE => if sameR y.row q = true then (fun r _ => if keyIs rc (keyOf lc p) r = true then zw (out1 x ⟨r, zw b r, zw b r + zw db r⟩) (p ++ q) else 0) y.row y.w else 0) b := sumI_congr fun y hy => by
    by_cases e : y.row = q
    · rw [if_pos ((sameR_eq _ _).2 e)]
      have hw := h.fit.zb.at hy
      have hn := h.fit.bnow y.row
      rw [hw] at hn
      simp only [hn, hw]
    · rw [if_neg (fun e' => e ((sameR_eq _ _).1 e'))]
      split
      · exact zw_out0 hxl (.inr e)
      · rfl
  have e2 : sumI (fun y : GE => if (sameR (keyOf rc y.row) (keyOf lc p) && decide (zw b y.row = 0)) = true then zw (out1 x ⟨y.row, 0, y.w⟩) (p ++ q) else 0) db = sumI (fun y : GE => if sameR y.row q = true then (fun r v => if (sameR (keyOf rc r) (keyOf lc p) && decide (zw b r = 0)) = true then zw (out1 x ⟨r, 0, v⟩) (p ++ q) else 0) y.row y.w else 0) db := sumI_congr fun y hy => by
    by_cases e : y.row = q
    · rw [if_pos ((sameR_eq _ _).2 e)]
    · rw [if_neg (fun e' => e ((sameR_eq _ _).1 e'))]
      split
      · exact zw_out0 hxl (.inr e)
      · rfl
  rw [e1, e2, sum_at h.fit.zb q (fun r _ => if keyIs rc (keyOf lc p) r = true then zw (out1 x ⟨r, zw b r, zw b r + zw db r⟩) (p ++ q) else 0), sum_at h.fit.zdb q (fun r v => if (sameR (keyOf rc r) (keyOf lc p) && decide (zw b r = 0)) = true then zw (out1 x ⟨r, 0, v⟩) (p ++ q) else 0)]
  simp only [keyIs_of hk]
  cases hm : meetK lc rc p q with
  | false =>
    have hs : sameR (keyOf rc q) (keyOf lc p) = false := by
      cases hc : sameR (keyOf rc q) (keyOf lc p) with
      | false => rfl
      | true =>
        have := (sameR_eq _ _).2 ((sameR_eq _ _).1 hc).symm
        unfold meetK at hm
        rw [hm] at this
        cases this
    simp [hs]
  | true =>
    have hkk := (sameR_eq _ _).1 hm
    have hs : sameR (keyOf rc q) (keyOf lc p) = true := (sameR_eq _ _).2 hkk.symm
    by_cases hb : zw b q = 0
    · by_cases hd : zw db q = 0
      · simp [hb, hd, jD]
      · have := h.out hp hq hpl hql hkk hx (y := ⟨q, 0, zw db q⟩) (by rw [hb, Int.zero_add])
        simp [hs, hb, hd, this]
    · have := h.out hp hq hpl hql hkk hx rfl
      simp [hs, hb, this]
theorem JOk.calm (h : JOk lc rc wl wr a b da db) {p q : List GV} (hp : RowOk p) (hq : RowOk q) (hpl : p.length = wl) (hql : q.length = wr) {y : GSp} (hy : y = ⟨q, zw b q, zw b q + zw db q⟩) :
    zw ((calmL lc a da (keyOf rc q)).flatMap fun x => out1 (still x) y) (p ++ q) = if meetK lc rc p q = true ∧ zw da p = 0 then jD a b da db p q else 0 := by
  obtain ⟨k, hk⟩ := h.fit.lk p hp hpl
  unfold calmL
  rw [zw_flat, sumI_filter, sumI_filter]
  have e1 : sumI (fun x : GE => if keyIs lc (keyOf rc q) x.row = true then (if decide (zw da x.row = 0) = true then zw (out1 (still x) y) (p ++ q) else 0) else 0) a = sumI (fun x : GE => if sameR x.row p = true then (fun r v => if keyIs lc (keyOf rc q) r = true then (if decide (zw da r = 0) = true then zw (out1 ⟨r, v, v⟩ y) (p ++ q) else 0) else 0) x.row x.w else 0) a := sumI_congr fun x hx => by
    by_cases e : x.row = p
    · rw [if_pos ((sameR_eq _ _).2 e)]; rfl
    · rw [if_neg (fun e' => e ((sameR_eq _ _).1 e'))]
      split
      · split
        · exact zw_out0 (by unfold still; simp only; rw [h.fit.al x hx, hpl]) (.inl e)
        · rfl
      · rfl
  rw [e1, sum_at h.fit.za p (fun r v => if keyIs lc (keyOf rc q) r = true then (if decide (zw da r = 0) = true then zw (out1 ⟨r, v, v⟩ y) (p ++ q) else 0) else 0)]
  simp only [keyIs_of hk]
  cases hm : meetK lc rc p q with
  | false =>
    unfold meetK at hm
    simp [hm]
  | true =>
    have hkk := (sameR_eq _ _).1 hm
    unfold meetK at hm
    by_cases hd : zw da p = 0
    · by_cases ha : zw a p = 0
      · simp [hd, ha, jD]
      · have := h.out hp hq hpl hql hkk (x := ⟨p, zw a p, zw a p⟩) (by rw [hd, Int.add_zero]) hy
        simp [hm, hd, ha, this]
    · simp [hd]
/-- The step gathers the result's change. -/
theorem JOk.outs (h : JOk lc rc wl wr a b da db) {p q : List GV} (hp : RowOk p) (hq : RowOk q) (hpl : p.length = wl) (hql : q.length = wr) :
    zw (outs1 lc rc a b da db ++ outs2 lc rc a b da db) (p ++ q) = jw lc rc (zw a p + zw da p) (zw b q + zw db q) p q - jw lc rc (zw a p) (zw b q) p q := by
  unfold outs1 outs2
  rw [zw_app, zw_flat, zw_flat]
  have e1 : sumI (fun x : GE => zw ((metL rc b db (keyOf lc x.row)).flatMap (out1 (spanOf a x))) (p ++ q)) da = sumI (fun x : GE => if sameR x.row p = true then (fun _ _ => if meetK lc rc p q = true then jD a b da db p q else 0) x.row x.w else 0) da := sumI_congr fun x hx => by
    by_cases e : x.row = p
    · rw [if_pos ((sameR_eq _ _).2 e)]
      subst e
      exact h.met hp hq hpl hql (h.fit.span hx)
    · rw [if_neg (fun e' => e ((sameR_eq _ _).1 e')), zw_flat]
      exact sumI_zero fun y hy => zw_out0 (by unfold spanOf; simp only; rw [h.fit.dal x hx, hpl]) (.inl e)
  have e2 : sumI (fun y : GE => zw ((calmL lc a da (keyOf rc y.row)).flatMap fun x => out1 (still x) (spanOf b y)) (p ++ q)) db = sumI (fun y : GE => if sameR y.row q = true then (fun _ _ => if meetK lc rc p q = true ∧ zw da p = 0 then jD a b da db p q else 0) y.row y.w else 0) db := sumI_congr fun y hy => by
    by_cases e : y.row = q
    · rw [if_pos ((sameR_eq _ _).2 e)]
      subst e
      exact h.calm hp hq hpl hql (h.fit.spanb hy)
    · rw [if_neg (fun e' => e ((sameR_eq _ _).1 e')), zw_flat]
      exact sumI_zero fun x hx => zw_out0 (by unfold still; simp only; rw [h.fit.al x ((calm_mem h.fit).1 hx).1, hpl]) (.inr e)
  rw [e1, e2, sum_at h.fit.zda p (fun _ _ => if meetK lc rc p q = true then jD a b da db p q else 0), sum_at h.fit.zdb q (fun _ _ => if meetK lc rc p q = true ∧ zw da p = 0 then jD a b da db p q else 0)]
  unfold jw
  cases hk : meetK lc rc p q with
  | false => simp
  | true =>
    by_cases hd : zw da p = 0
    · by_cases hdb : zw db q = 0
      · simp [hd, hdb]
      · simp [hd, hdb, jD]
    · simp [hd, jD]
end
end Go.Proofs.YtflckpfpgpfjlaaGreatDoor
end
section
namespace Go.Proofs.YtflckpfpgpfjlaaGreatDoor
open Go.RowKit Go.Sort
theorem rowOk_app {p q : List GV} (hp : RowOk p) (hq : RowOk q) (h : p.length + q.length ≤ 1024) : RowOk (p ++ q) := by
  refine ⟨?_, fun x hx => ?_⟩
  · have h1 := hp.1
    have h2 := hq.1
    unfold rsound at *
    rw [Bool.and_eq_true, decide_eq_true_eq, Bool.not_eq_true'] at *
    rw [List.length_append, List.any_append, h1.2, h2.2]
    exact ⟨h, rfl⟩
  · rcases List.mem_append.1 hx with h3 | h3
    · exact hp.2 x h3
    · exact hq.2 x h3
theorem rowOk_parts {p q : List GV} (h : RowOk (p ++ q)) : RowOk p ∧ RowOk q := by
  have h1 := h.1
  unfold rsound at h1
  rw [Bool.and_eq_true, decide_eq_true_eq, Bool.not_eq_true', List.length_append, List.any_append, Bool.or_eq_false_iff] at h1
  refine ⟨⟨?_, fun x hx => h.2 x (List.mem_append_left _ hx)⟩, ⟨?_, fun x hx => h.2 x (List.mem_append_right _ hx)⟩⟩
  · unfold rsound; rw [Bool.and_eq_true, decide_eq_true_eq, Bool.not_eq_true']; exact ⟨by omega, h1.2.1⟩
  · unfold rsound; rw [Bool.and_eq_true, decide_eq_true_eq, Bool.not_eq_true']; exact ⟨by omega, h1.2.2⟩
theorem fair_of {x : Int} (h1 : -4611686018427387904 ≤ x) (h2 : x ≤ 4611686018427387904) : fair x = true := by
  unfold fair
  rw [decide_eq_true h1, decide_eq_true h2]; rfl
theorem out1_mem {s t : GSp} {x : GE} (h : x ∈ out1 s t) : x = ⟨s.row ++ t.row, wrap64 (timesV s.now t.now - timesV s.before t.before)⟩ := by
  unfold out1 at h
  split at h
  · exact List.mem_singleton.1 h
  · cases h
/-- A row joined of two. -/
def Pair (wl wr : Nat) (r : List GV) : Prop := ∃ p q, RowOk p ∧ RowOk q ∧ p.length = wl ∧ q.length = wr ∧ r = p ++ q
theorem Pair.of {wl wr : Nat} {r : List GV} (hr : RowOk r) (hl : r.length = wl + wr) : Pair wl wr r := by
  have h := rowOk_parts (p := r.take wl) (q := r.drop wl) (by rw [List.take_append_drop]; exact hr)
  exact ⟨r.take wl, r.drop wl, h.1, h.2, by rw [List.length_take]; omega, by rw [List.length_drop]; omega, (List.take_append_drop _ _).symm⟩
theorem Pair.len {wl wr : Nat} {r : List GV} (h : Pair wl wr r) : r.length = wl + wr := by
  obtain ⟨p, q, _, _, h1, h2, rfl⟩ := h
  rw [List.length_append, h1, h2]
section
variable {lc rc : List Int} {wl wr : Nat} {a b da db : List GE}
theorem JOk.val (h : JOk lc rc wl wr a b da db) {p q : List GV} (hp : RowOk p) (hq : RowOk q) (hpl : p.length = wl) (hql : q.length = wr) (hk : keyOf lc p = keyOf rc q) :
    wrap64 (timesV (zw a p + zw da p) (zw b q + zw db q) - timesV (zw a p) (zw b q)) = jD a b da db p q := by
  rw [timesV_fit (h.fit.a' p).1 (h.fit.b' q).1 (h.new p q hp hq hpl hql hk), timesV_fit (h.fit.aw p).1 (h.fit.bw q).1 (h.old p q hp hq hpl hql hk)]
  exact (h.small hp hq hpl hql hk).1
/-- Each gathered entry joins two rows that meet. -/
theorem JOk.mem (h : JOk lc rc wl wr a b da db) {x : GE} (hx : x ∈ outs1 lc rc a b da db ++ outs2 lc rc a b da db) : ∃ p q, RowOk p ∧ RowOk q ∧ p.length = wl ∧ q.length = wr ∧ keyOf lc p = keyOf rc q ∧ x.row = p ++ q ∧ x.w = jD a b da db p q := by
  rcases List.mem_append.1 hx with hx | hx
  · unfold outs1 at hx
    obtain ⟨u, hu, hx⟩ := List.mem_flatMap.1 hx
    obtain ⟨y, hy, hx⟩ := List.mem_flatMap.1 hx
    obtain ⟨q, rfl, hk, _, hok, hql⟩ := (met_mem h.fit).1 hy
    have e := out1_mem hx
    rw [h.fit.span hu] at e
    have hkk := ((sameR_eq _ _).1 hk).symm
    refine ⟨u.row, q, h.fit.zda.row u hu, hok, h.fit.dal u hu, hql, hkk, by rw [e], ?_⟩
    rw [e]
    exact h.val (h.fit.zda.row u hu) hok (h.fit.dal u hu) hql hkk
  · unfold outs2 at hx
    obtain ⟨y, hy, hx⟩ := List.mem_flatMap.1 hx
    obtain ⟨u, hu, hx⟩ := List.mem_flatMap.1 hx
    obtain ⟨hu1, hk, h0⟩ := (calm_mem h.fit).1 hu
    have e := out1_mem hx
    rw [h.fit.spanb hy] at e
    have hkk := (sameR_eq _ _).1 hk
    refine ⟨u.row, y.row, h.fit.za.row u hu1, h.fit.zdb.row y hy, h.fit.al u hu1, h.fit.dbl y hy, hkk, by rw [e]; rfl, ?_⟩
    rw [e]
    have hv := h.val (h.fit.za.row u hu1) (h.fit.zdb.row y hy) (h.fit.al u hu1) (h.fit.dbl y hy) hkk
    have hw := h.fit.za.at hu1
    rw [h0, hw, Int.add_zero] at hv
    exact hv
theorem JOk.jw0 (h : JOk lc rc wl wr a b da db) {p q : List GV} (hp : RowOk p) (hq : RowOk q) (hpl : p.length = wl) (hql : q.length = wr) : 0 ≤ jw lc rc (zw a p) (zw b q) p q ∧ jw lc rc (zw a p) (zw b q) p q ≤ 1099511627776 := by
  unfold jw
  split
  · next hm => exact ⟨Int.mul_nonneg (h.fit.aw p).1 (h.fit.bw q).1, h.old p q hp hq hpl hql ((sameR_eq _ _).1 hm)⟩
  · exact ⟨by decide, by decide⟩
theorem JOk.jw1 (h : JOk lc rc wl wr a b da db) {p q : List GV} (hp : RowOk p) (hq : RowOk q) (hpl : p.length = wl) (hql : q.length = wr) : 0 ≤ jw lc rc (zw a p + zw da p) (zw b q + zw db q) p q ∧ jw lc rc (zw a p + zw da p) (zw b q + zw db q) p q ≤ 1099511627776 := by
  unfold jw
  split
  · next hm => exact ⟨Int.mul_nonneg (h.fit.a' p).1 (h.fit.b' q).1, h.new p q hp hq hpl hql ((sameR_eq _ _).1 hm)⟩
  · exact ⟨by decide, by decide⟩
theorem JOk.fine (h : JOk lc rc wl wr a b da db) (hw : wl + wr ≤ 1024) : (outs1 lc rc a b da db ++ outs2 lc rc a b da db).any badE = false := by
  rw [List.any_eq_false]
  intro x hx
  obtain ⟨p, q, hp, hq, hpl, hql, hk, e1, e2⟩ := h.mem hx
  have h1 := h.small hp hq hpl hql hk
  unfold badE
  rw [e1, e2, (rowOk_app hp hq (by omega)).1, fair_of (by omega) (by omega)]
  simp
theorem JOk.notOver (h : JOk lc rc wl wr a b da db) : overL (outs1 lc rc a b da db ++ outs2 lc rc a b da db) = false := by
  unfold overL
  rw [List.any_eq_false]
  intro x hx
  obtain ⟨p, q, hp, hq, hpl, hql, hk, e1, e2⟩ := h.mem hx
  have h0 := h.jw0 hp hq hpl hql
  have h1 := h.jw1 hp hq hpl hql
  rw [e1, h.outs hp hq hpl hql, fair_of (by omega) (by omega)]
  simp
/-- What Step answers, of the change that it gathers. -/
structure JDelta (lc rc : List Int) (wl wr : Nat) (a b da db z : List GE) : Prop where
  ok : ZOk z
  fz : FairZ z
  pair : ∀ x ∈ z, Pair wl wr x.row
  pt : ∀ p q, RowOk p → RowOk q → p.length = wl → q.length = wr → zw z (p ++ q) = jw lc rc (zw a p + zw da p) (zw b q + zw db q) p q - jw lc rc (zw a p) (zw b q) p q
theorem JOk.delta (h : JOk lc rc wl wr a b da db) {z : List GE} (hm : Made (outs1 lc rc a b da db ++ outs2 lc rc a b da db) z) : JDelta lc rc wl wr a b da db z := by
  refine ⟨hm.ok, hm.fz, fun x hx => ?_, fun p q hp hq hpl hql => by rw [hm.sum, h.outs hp hq hpl hql]⟩
  have h1 := hm.ok.w x hx
  rw [← hm.ok.at hx, hm.sum] at h1
  obtain ⟨y, hy, e⟩ := zw_mem h1
  obtain ⟨p, q, hp, hq, hpl, hql, _, e1, _⟩ := h.mem hy
  exact ⟨p, q, hp, hq, hpl, hql, by rw [← e, e1]⟩
end
/-- The join of two bags. -/
structure JRes (lc rc : List Int) (wl wr : Nat) (a b z : List GE) : Prop where
  ok : ZOk z
  fz : FairZ z
  pair : ∀ x ∈ z, Pair wl wr x.row
  pt : ∀ p q, RowOk p → RowOk q → p.length = wl → q.length = wr → zw z (p ++ q) = jw lc rc (zw a p) (zw b q) p q
section
variable {lc rc : List Int} {wl wr : Nat} {a b da db : List GE}
/-- Two multisets of joined rows that agree at all pairs are one. -/
theorem pair_ext {z y : List GE} (hz : ZOk z) (hy : ZOk y) (h1 : ∀ x ∈ z, Pair wl wr x.row) (h2 : ∀ x ∈ y, Pair wl wr x.row) (h : ∀ p q, RowOk p → RowOk q → p.length = wl → q.length = wr → zw z (p ++ q) = zw y (p ++ q)) : z = y := zext hz hy fun r hr => by
  by_cases hl : r.length = wl + wr
  · obtain ⟨p, q, hp, hq, hpl, hql, rfl⟩ := Pair.of hr hl
    exact h p q hp hq hpl hql
  · rw [zw_none (z := z) fun x hx e => hl (by rw [← e]; exact (h1 x hx).len), zw_none (z := y) fun x hx e => hl (by rw [← e]; exact (h2 x hx).len)]
theorem JRes.one {z y : List GE} (hz : JRes lc rc wl wr a b z) (hy : JRes lc rc wl wr a b y) : z = y := pair_ext hz.ok hy.ok hz.pair hy.pair fun p q hp hq hpl hql => by rw [hz.pt p q hp hq hpl hql, hy.pt p q hp hq hpl hql]
theorem jw_zero (lc rc : List Int) (p q : List GV) (y : Int) : jw lc rc 0 y p q = 0 := by unfold jw; split <;> simp
theorem jw_zero' (lc rc : List Int) (p q : List GV) (x : Int) : jw lc rc x 0 p q = 0 := by unfold jw; split <;> simp
theorem JRes.nil (lc rc : List Int) (wl wr : Nat) : JRes lc rc wl wr [] [] [] := ⟨ZOk.nil, (fun x hx => by cases hx), (fun x hx => by cases hx), fun p q _ _ _ _ => by rw [zw_nil, zw_nil, jw_zero]⟩
/-- The result and its change, added. -/
theorem JRes.step (h : JOk lc rc wl wr a b da db) {z d a2 b2 : List GE} (hz : JRes lc rc wl wr a b z) (hd : JDelta lc rc wl wr a b da db d) (ha : ZSum a da a2) (hb : ZSum b db b2) : overL (z ++ d) = false ∧ ∀ s, Made (z ++ d) s → JRes lc rc wl wr a2 b2 s := by
  have key : ∀ p q, RowOk p → RowOk q → p.length = wl → q.length = wr → zw (z ++ d) (p ++ q) = jw lc rc (zw a p + zw da p) (zw b q + zw db q) p q := fun p q hp hq hpl hql => by
    rw [zw_app, hz.pt p q hp hq hpl hql, hd.pt p q hp hq hpl hql]; omega
  have hpair : ∀ x ∈ z ++ d, Pair wl wr x.row := fun x hx => by
    rcases List.mem_append.1 hx with hx | hx
    · exact hz.pair x hx
    · exact hd.pair x hx
  refine ⟨?_, fun s hm => ⟨hm.ok, hm.fz, fun x hx => ?_, fun p q hp hq hpl hql => by rw [hm.sum, key p q hp hq hpl hql, ha p hp, hb q hq]⟩⟩
  · unfold overL
    rw [List.any_eq_false]
    intro x hx
    obtain ⟨p, q, hp, hq, hpl, hql, e⟩ := hpair x hx
    have h1 := h.jw1 hp hq hpl hql
    rw [e, key p q hp hq hpl hql, fair_of (by omega) (by omega)]
    simp
  · have h1 := hm.ok.w x hx
    rw [← hm.ok.at hx, hm.sum] at h1
    obtain ⟨y, hy, e⟩ := zw_mem h1
    rw [← e]
    exact hpair y hy
/-- All pairs of rows that meet. -/
def pairsL (lc rc : List Int) (a b : List GE) : List GE := a.flatMap fun x => (b.filter fun y => meetK lc rc x.row y.row).map fun y => ⟨x.row ++ y.row, x.w * y.w⟩
theorem pairs_at (lc rc : List Int) {wl : Nat} {a b : List GE} (ha : ZOk a) (hb : ZOk b) (hal : ∀ x ∈ a, x.row.length = wl) {p q : List GV} (hpl : p.length = wl) : zw (pairsL lc rc a b) (p ++ q) = jw lc rc (zw a p) (zw b q) p q := by
  unfold pairsL
  rw [zw_flat]
  have e1 : sumI (fun x : GE => zw ((b.filter fun y => meetK lc rc x.row y.row).map fun y => (⟨x.row ++ y.row, x.w * y.w⟩ : GE)) (p ++ q)) a = sumI (fun x : GE => if sameR x.row p = true then (fun r v => jw lc rc v (zw b q) r q) x.row x.w else 0) a := sumI_congr fun x hx => by
    have e2 : zw ((b.filter fun y => meetK lc rc x.row y.row).map fun y => (⟨x.row ++ y.row, x.w * y.w⟩ : GE)) (p ++ q) = sumI (fun y : GE => if sameR y.row q = true then (fun s v => if (sameR x.row p && meetK lc rc x.row s) = true then x.w * v else 0) y.row y.w else 0) b := by
      unfold zw
      rw [sumI_map, sumI_filter]
      refine sumI_congr fun y hy => ?_
      have hi := app_inj (a := x.row) (b := y.row) (c := p) (d := q) (by rw [hal x hx, hpl])
      by_cases h1 : x.row = p
      · by_cases h2 : y.row = q
        · have h3 : sameR (x.row ++ y.row) (p ++ q) = true := (sameR_eq _ _).2 (by rw [h1, h2])
          have h4 : sameR y.row q = true := (sameR_eq _ _).2 h2
          have h5 : sameR x.row p = true := (sameR_eq _ _).2 h1
          simp only [h3, h4, h5, Bool.true_and, if_true]
        · have h3 : sameR (x.row ++ y.row) (p ++ q) = false := by
            cases hc : sameR (x.row ++ y.row) (p ++ q) with
            | false => rfl
            | true => exact absurd (hi.1 ((sameR_eq _ _).1 hc)).2 h2
          have h4 : sameR y.row q = false := by
            cases hc : sameR y.row q with
            | false => rfl
            | true => exact absurd ((sameR_eq _ _).1 hc) h2
          simp [h3, h4]
      · have h3 : sameR (x.row ++ y.row) (p ++ q) = false := by
          cases hc : sameR (x.row ++ y.row) (p ++ q) with
          | false => rfl
          | true => exact absurd (hi.1 ((sameR_eq _ _).1 hc)).1 h1
        have h5 : sameR x.row p = false := by
          cases hc : sameR x.row p with
          | false => rfl
          | true => exact absurd ((sameR_eq _ _).1 hc) h1
        simp [h3, h5]
    rw [e2, sum_at hb q (fun s v => if (sameR x.row p && meetK lc rc x.row s) = true then x.w * v else 0)]
    by_cases h1 : x.row = p
    · rw [if_pos ((sameR_eq _ _).2 h1)]
      have h5 : sameR x.row p = true := (sameR_eq _ _).2 h1
      unfold jw
      by_cases h0 : zw b q = 0
      · simp [h0]
      · simp [h0, h5]
    · rw [if_neg (fun e => h1 ((sameR_eq _ _).1 e))]
      have h5 : sameR x.row p = false := by
        cases hc : sameR x.row p with
        | false => rfl
        | true => exact absurd ((sameR_eq _ _).1 hc) h1
      simp [h5]
  rw [e1, sum_at ha p (fun r v => jw lc rc v (zw b q) r q)]
  by_cases h0 : zw a p = 0
  · rw [if_pos h0, h0, jw_zero]
  · rw [if_neg h0]
/-- No pair of the bags is too great. -/
def Small (lc rc : List Int) (a b : List GE) : Prop := ∀ x ∈ a, ∀ y ∈ b, meetK lc rc x.row y.row = true → x.w * y.w ≤ 1099511627776
theorem pairs_res (hw : wl + wr ≤ 1024) (ha : ZOk a) (hb : ZOk b) (hal : ∀ x ∈ a, x.row.length = wl) (hbl : ∀ x ∈ b, x.row.length = wr) (hap : ∀ x ∈ a, 1 ≤ x.w) (hbp : ∀ x ∈ b, 1 ≤ x.w) (hs : Small lc rc a b) :
    (pairsL lc rc a b).any badE = false ∧ overL (pairsL lc rc a b) = false ∧ ∀ z, Made (pairsL lc rc a b) z → JRes lc rc wl wr a b z := by
  have hmem : ∀ x ∈ pairsL lc rc a b, ∃ u ∈ a, ∃ y ∈ b, meetK lc rc u.row y.row = true ∧ x = ⟨u.row ++ y.row, u.w * y.w⟩ := fun x hx => by
    unfold pairsL at hx
    obtain ⟨u, hu, hx⟩ := List.mem_flatMap.1 hx
    obtain ⟨y, hy, rfl⟩ := List.mem_map.1 hx
    obtain ⟨h1, h2⟩ := List.mem_filter.1 hy
    exact ⟨u, hu, y, h1, h2, rfl⟩
  have hfz : ∀ u ∈ a, ∀ y ∈ b, meetK lc rc u.row y.row = true → 0 ≤ u.w * y.w ∧ u.w * y.w ≤ 1099511627776 := fun u hu y hy hm => ⟨Int.mul_nonneg (by have := hap u hu; omega) (by have := hbp y hy; omega), hs u hu y hy hm⟩
  refine ⟨?_, ?_, fun z hm => ⟨hm.ok, hm.fz, fun x hx => ?_, fun p q _ _ hpl _ => by rw [hm.sum, pairs_at lc rc ha hb hal hpl]⟩⟩
  · rw [List.any_eq_false]
    intro x hx
    obtain ⟨u, hu, y, hy, hm, rfl⟩ := hmem x hx
    have h1 := hfz u hu y hy hm
    unfold badE
    simp only
    rw [(rowOk_app (ha.row u hu) (hb.row y hy) (by rw [hal u hu, hbl y hy]; exact hw)).1, fair_of (by omega) (by omega)]
    simp
  · unfold overL
    rw [List.any_eq_false]
    intro x hx
    obtain ⟨u, hu, y, hy, hm, rfl⟩ := hmem x hx
    simp only
    have h1 := hfz u hu y hy hm
    rw [pairs_at lc rc ha hb hal (hal u hu), ha.at hu, hb.at hy]
    unfold jw
    rw [if_pos hm, fair_of (by omega) (by omega)]
    simp
  · have h1 := hm.ok.w x hx
    rw [← hm.ok.at hx, hm.sum] at h1
    obtain ⟨y, hy, e⟩ := zw_mem h1
    obtain ⟨u, hu, v, hv, _, rfl⟩ := hmem y hy
    exact ⟨u.row, v.row, ha.row u hu, hb.row v hv, hal u hu, hbl v hv, e.symm⟩
/-- No pair too great, told by weights. -/
theorem Small.at (ha : ZOk a) (hb : ZOk b) (hs : Small lc rc a b) (p q : List GV) (hk : keyOf lc p = keyOf rc q) : zw a p * zw b q ≤ 1099511627776 := by
  by_cases h1 : zw a p = 0
  · rw [h1, Int.zero_mul]; decide
  · by_cases h2 : zw b q = 0
    · rw [h2, Int.mul_zero]; decide
    · obtain ⟨x, hx, rfl⟩ := zw_mem h1
      obtain ⟨y, hy, rfl⟩ := zw_mem h2
      rw [ha.at hx, hb.at hy]
      exact hs x hx y hy ((sameR_eq _ _).2 hk)
/-- Rows with their first n values put behind the others. -/
def turnedL (n : Nat) (z : List GE) : List GE := z.map fun x => ⟨x.row.drop n ++ x.row.take n, x.w⟩
theorem turned_at {wl wr : Nat} {z : List GE} (hz : ∀ x ∈ z, Pair wl wr x.row) {p q : List GV} (hpl : p.length = wl) (hql : q.length = wr) : zw (turnedL wl z) (q ++ p) = zw z (p ++ q) := by
  unfold turnedL zw
  rw [sumI_map]
  refine sumI_congr fun x hx => ?_
  obtain ⟨p', q', _, _, h1, h2, e⟩ := hz x hx
  have e1 : x.row.drop wl = q' := by rw [e, List.drop_left' h1]
  have e2 : x.row.take wl = p' := by rw [e, List.take_left' h1]
  simp only [e1, e2]
  rw [e]
  have h3 := app_inj (a := q') (b := p') (c := q) (d := p) (by rw [h2, hql])
  have h4 := app_inj (a := p') (b := q') (c := p) (d := q) (by rw [h1, hpl])
  have : sameR (q' ++ p') (q ++ p) = sameR (p' ++ q') (p ++ q) := by
    rw [Bool.eq_iff_iff, sameR_eq, sameR_eq, h3, h4]
    exact ⟨fun h => ⟨h.2, h.1⟩, fun h => ⟨h.2, h.1⟩⟩
  rw [this]
theorem turned_ok {z : List GE} (hw : wl + wr ≤ 1024) (hz : ZOk z) (hf : FairZ z) (hp : ∀ x ∈ z, Pair wl wr x.row) : (turnedL wl z).any badE = false ∧ overL (turnedL wl z) = false ∧ ∀ y, Made (turnedL wl z) y → (∀ x ∈ y, Pair wr wl x.row) ∧ ∀ p q, p.length = wl → q.length = wr → zw y (q ++ p) = zw z (p ++ q) := by
  have hmem : ∀ x ∈ turnedL wl z, ∃ u ∈ z, ∃ p q, RowOk p ∧ RowOk q ∧ p.length = wl ∧ q.length = wr ∧ u.row = p ++ q ∧ x = ⟨q ++ p, u.w⟩ := fun x hx => by
    unfold turnedL at hx
    obtain ⟨u, hu, rfl⟩ := List.mem_map.1 hx
    obtain ⟨p, q, h1, h2, h3, h4, e⟩ := hp u hu
    exact ⟨u, hu, p, q, h1, h2, h3, h4, e, by rw [e, List.drop_left' h3, List.take_left' h3]⟩
  refine ⟨?_, ?_, fun y hm => ⟨fun x hx => ?_, fun p q hpl hql => by rw [hm.sum, turned_at hp hpl hql]⟩⟩
  · rw [List.any_eq_false]
    intro x hx
    obtain ⟨u, hu, p, q, h1, h2, h3, h4, _, rfl⟩ := hmem x hx
    unfold badE
    simp only
    rw [(rowOk_app h2 h1 (by omega)).1, hf u hu]
    simp
  · unfold overL
    rw [List.any_eq_false]
    intro x hx
    obtain ⟨u, hu, p, q, h1, h2, h3, h4, e, rfl⟩ := hmem x hx
    simp only
    rw [turned_at hp h3 h4, hf.at hz (p ++ q)]
    simp
  · have h1 := hm.ok.w x hx
    rw [← hm.ok.at hx, hm.sum] at h1
    obtain ⟨v, hv, e⟩ := zw_mem h1
    obtain ⟨u, hu, p, q, h1, h2, h3, h4, _, rfl⟩ := hmem v hv
    exact ⟨q, p, h2, h1, h4, h3, e.symm⟩
theorem meetK_comm (lc rc : List Int) (p q : List GV) : meetK lc rc p q = meetK rc lc q p := by
  unfold meetK
  rw [Bool.eq_iff_iff, sameR_eq, sameR_eq]
  exact ⟨Eq.symm, Eq.symm⟩
theorem jw_comm (lc rc : List Int) (x y : Int) (p q : List GV) : jw lc rc x y p q = jw rc lc y x q p := by
  unfold jw
  rw [meetK_comm, Int.mul_comm]
/-- The join turned round changes so too. -/
theorem JDelta.turned {z y t : List GE} (hw : wl + wr ≤ 1024) (hz : JDelta lc rc wl wr a b da db z) (hy : JDelta rc lc wr wl b a db da y) (ht : Made (turnedL wl z) t) : t = y := by
  obtain ⟨_, _, h3⟩ := turned_ok hw hz.ok hz.fz hz.pair
  obtain ⟨h4, h5⟩ := h3 t ht
  exact pair_ext ht.ok hy.ok h4 hy.pair fun q p hq hp hql hpl => by
    rw [h5 p q hpl hql, hz.pt p q hp hq hpl hql, hy.pt q p hq hp hql hpl, jw_comm, jw_comm lc rc (zw a p)]
theorem JFit.turn (h : JFit lc rc wl wr a b da db) : JFit rc lc wr wl b a db da := ⟨h.zb, h.za, h.zdb, h.zda, h.bw, h.aw, h.b', h.a', h.bl, h.al, h.dbl, h.dal, h.rk, h.lk⟩
theorem Vast.turn (h : Vast lc rc wl wr a b da db) : Vast rc lc wr wl b a db da := by
  obtain ⟨p, q, h1, h2, h3, h4, h5, h6⟩ := h
  exact ⟨q, p, h2, h1, h4, h3, h5.symm, by rw [Int.mul_comm]; exact h6⟩
theorem JOk.of (h : JFit lc rc wl wr a b da db) (hold : ∀ p q, RowOk p → RowOk q → p.length = wl → q.length = wr → keyOf lc p = keyOf rc q → zw a p * zw b q ≤ 1099511627776) (hv : ¬ Vast lc rc wl wr a b da db) : JOk lc rc wl wr a b da db :=
  ⟨h, hold, fun p q hp hq hpl hql hk => by
    by_cases h1 : (zw a p + zw da p) * (zw b q + zw db q) ≤ 1099511627776
    · exact h1
    · exact absurd ⟨p, q, hp, hq, hpl, hql, hk, by omega⟩ hv⟩
end
end Go.Proofs.YtflckpfpgpfjlaaGreatDoor
end
