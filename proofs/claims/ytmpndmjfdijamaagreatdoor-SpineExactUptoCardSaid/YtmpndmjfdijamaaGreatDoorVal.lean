/- The walks of the package val as far as rows need it: each function comes to its plain function. -/
import Derived.Test.YtmpndmjfdijamaaGreatDoorDefs
set_option linter.unusedVariables false
set_option linter.unusedSimpArgs false
namespace Go.Proofs.YtmpndmjfdijamaaGreatDoor
open Go.RowKit Go.Sort
/-! '==' of structs -/
theorem eqf_cons {P : Program} {d : Nat} {xs ys : Array Value} {f : Field} {fs : List Field} {a b : Value} {r s : Bool} {w : World} (hn : (f.name == "_") = false) (ha : (part f.type xs f.offset).run P w = .ok a w) (hb : (part f.type ys f.offset).run P w = .ok b w) (he : (Op.equalIn d f.type a b).run P w = .ok r w) (hr : (Op.eqFields d xs ys fs).run P w = .ok s w) : (Op.eqFields d xs ys (f :: fs)).run P w = .ok (r && s) w := by
  have hn' : f.name ≠ "_" := by simpa using hn
  rw [Op.eqFields]
  simp only [if_pos hn', Sem.run_bind, ha, hb, he, Result.andThen_ok]
  cases r
  · simp
  · simpa using hr
theorem eqf_nil {P : Program} {d : Nat} {xs ys : Array Value} {w : World} : (Op.eqFields d xs ys []).run P w = .ok true w := by simp [Op.eqFields]
theorem eqVal_in (d : Nat) (k n f : Int) (t : ByteArray) (k' n' f' : Int) (t' : ByteArray) (w : World) :
    (Op.equalIn (d + 2) 55 (.agg #[.int .i64 k, .int .i64 n, .int .u64 f, .string t]) (.agg #[.int .i64 k', .int .i64 n', .int .u64 f', .string t'])).run Tryz.prog w = .ok (eqGV k n f t k' n' f' t') w := by
  rw [run_equalIn_struct w (d + 1) 55 _ _ (by kernel_rfl) (by kernel_rfl)]
  simp only [Program.fieldsOf, Tryz.underlying55]
  refine eqf_cons (by decide) (a := .int .i64 k) (b := .int .i64 k') (by go_simp) (by go_simp) (run_equalIn_int w d _ _ _ _ _ Tryz.underlying3) ?_
  refine eqf_cons (by decide) (a := .int .i64 n) (b := .int .i64 n') (by go_simp) (by go_simp) (run_equalIn_int w d _ _ _ _ _ Tryz.underlying3) ?_
  refine eqf_cons (by decide) (a := .int .u64 f) (b := .int .u64 f') (by go_simp) (by go_simp) (run_equalIn_int w d _ _ _ _ _ Tryz.underlying53) ?_
  refine eqf_cons (by decide) (a := .string t) (b := .string t') (by go_simp) (by go_simp) (run_equalIn_string w d _ _ _ Tryz.underlying9) eqf_nil
theorem eqVal (k n f : Int) (t : ByteArray) (k' n' f' : Int) (t' : ByteArray) (w : World) :
    (binOp .eql 55 (.agg #[.int .i64 k, .int .i64 n, .int .u64 f, .string t]) (.agg #[.int .i64 k', .int .i64 n', .int .u64 f', .string t'])).run Tryz.prog w = .ok (.bool (eqGV k n f t k' n' f' t')) w := by
  have h := eqVal_in 9998 k n f t k' n' f' t' w
  simp only [binOp, Op.equal, Op.maxDepth, Sem.run_bind, h, Result.andThen_ok, Sem.run_pure]
theorem neVal (k n f : Int) (t : ByteArray) (k' n' f' : Int) (t' : ByteArray) (w : World) :
    (binOp .neq 55 (.agg #[.int .i64 k, .int .i64 n, .int .u64 f, .string t]) (.agg #[.int .i64 k', .int .i64 n', .int .u64 f', .string t'])).run Tryz.prog w = .ok (.bool (!eqGV k n f t k' n' f' t')) w := by
  have h := eqVal_in 9998 k n f t k' n' f' t' w
  simp only [binOp, Op.equal, Op.maxDepth, Sem.run_bind, h, Result.andThen_ok, Sem.run_pure]
attribute [local go_sem ↓] eqVal neVal
theorem f64fb_run (n : Int) (w : World) : (callFunc 120 #[.int .u64 n]).run Tryz.prog w = .ok (.value (.float .f64 n.toNat)) w := by
  rw [run_callFunc_extern Tryz.func120 (by kernel_rfl) (by kernel_rfl) (by kernel_rfl) (e := Extern.MathFloatBits.float64frombits) (by kernel_rfl)]
  rfl
theorem plain_any (f : Int) (w : World) :
    Calls Tryz.prog 102 #[.int .u64 f] w fun e w' => e = .returned (.int .u64 (vplain f)) ∧ w = w' := by
  have h1 := fun W => f64fb_run f W
  go_enter Tryz.func102, Tryz.ntmps102
  go_wp2_with fail
  all_goals (go_ret; exact ⟨ret_int (by simp [vplain, fnan, ford, *]), rfl⟩)
theorem vSound_any (x : GV) (w : World) (hx : x.Ok) :
    Calls Tryz.prog 67 #[.agg #[.int .i64 x.k, .int .i64 x.n, .int .u64 x.f, .string x.t]] w fun e w' => e = .returned (.bool (vsound x)) ∧ Ext w w' := by
  obtain ⟨k, n, f, t⟩ := x
  obtain ⟨⟨a1, a2⟩, ⟨b1, b2⟩, ⟨c1, c2⟩, d⟩ := hx
  simp only at *
  by_cases hk : k = 3
  · subst hk
    go_enter Tryz.func67, Tryz.ntmps67
    go_wp2_with fail
    go_quiet ((go_at_call 102; exact quiet_same (plain_any _ _)))
    go_wp2
    go_ret
    exact ⟨ret_bool (by simp [vsound]), (by repeat (first | (with_reducible exact Ext.refl _) | (with_reducible assumption) | (with_reducible apply Ext.alloc) | (with_reducible apply Ext.drewN) | (with_reducible apply Ext.drew) | (with_reducible apply Ext.grow) | (with_reducible refine Ext.trans ?_ (by with_reducible assumption))))⟩
  · by_cases hk : k = 4
    · subst hk
      go_enter Tryz.func67, Tryz.ntmps67
      go_wp2_with fail
      all_goals (go_ret; exact ⟨ret_bool (by simp [vsound, *]), (by repeat (first | (with_reducible exact Ext.refl _) | (with_reducible assumption) | (with_reducible apply Ext.alloc) | (with_reducible apply Ext.drewN) | (with_reducible apply Ext.drew) | (with_reducible apply Ext.grow) | (with_reducible refine Ext.trans ?_ (by with_reducible assumption))))⟩)
    have k3 : (k == 3) = false := by simpa using ‹¬ k = 3›
    have k4 : (k == 4) = false := by simpa using hk
    go_enter Tryz.func67, Tryz.ntmps67
    go_wp2_with fail
    all_goals (go_ret; exact ⟨ret_bool (by simp [vsound, *]), (by repeat (first | (with_reducible exact Ext.refl _) | (with_reducible assumption) | (with_reducible apply Ext.alloc) | (with_reducible apply Ext.drewN) | (with_reducible apply Ext.drew) | (with_reducible apply Ext.grow) | (with_reducible refine Ext.trans ?_ (by with_reducible assumption))))⟩)
theorem vfloat_any (k n f : Int) (t : ByteArray) (w : World) :
    Calls Tryz.prog 136 #[.agg #[.int .i64 k, .int .i64 n, .int .u64 f, .string t]] w fun e w' => e = .returned (.float .f64 f.toNat) ∧ Ext w w' := by
  have h1 := fun W => f64fb_run f W
  go_enter Tryz.func136, Tryz.ntmps136
  go_wp2_with fail
  go_ret
  exact ⟨rfl, (by repeat (first | (with_reducible exact Ext.refl _) | (with_reducible assumption) | (with_reducible apply Ext.alloc) | (with_reducible apply Ext.drewN) | (with_reducible apply Ext.drew) | (with_reducible apply Ext.grow) | (with_reducible refine Ext.trans ?_ (by with_reducible assumption))))⟩
theorem nanF64_any (a : Nat) (w : World) : Calls Tryz.prog 157 #[.float .f64 a] w fun e w' => e = .returned (.bool (fnan a)) ∧ w = w' := by
  go_enter Tryz.func157, Tryz.ntmps157
  go_wp2_with fail
  go_ret
  exact ⟨rfl, rfl⟩
theorem cmpF64_any (a b : Nat) (w : World) : Calls Tryz.prog 149 #[.float .f64 a, .float .f64 b] w fun e w' => e = .returned (.int .i64 (fcmp0 a b)) ∧ w = w' := by
  go_enter Tryz.func149, Tryz.ntmps149
  go_wp2_with (go_at_call 157; refine (nanF64_any _ _).mono ?_; rintro e w' ⟨rfl, rfl⟩)
  all_goals (go_ret; exact ⟨ret_int (by simp [fcmp0, ford, *]), rfl⟩)
theorem nanInt_any (a : Int) (w : World) : Calls Tryz.prog 148 #[.int .i64 a] w fun e w' => e = .returned (.bool false) ∧ w = w' := by
  go_enter Tryz.func148, Tryz.ntmps148
  go_wp2_with fail
  go_ret
  exact ⟨ret_bool (by simp), rfl⟩
theorem cmpInt_any (a b : Int) (w : World) : Calls Tryz.prog 134 #[.int .i64 a, .int .i64 b] w fun e w' => e = .returned (.int .i64 (icmp a b)) ∧ w = w' := by
  go_enter Tryz.func134, Tryz.ntmps134
  go_wp2_with (go_at_call 148; refine (nanInt_any _ _).mono ?_; rintro e w' ⟨rfl, rfl⟩)
  all_goals (go_ret; exact ⟨ret_int (by unfold icmp; (repeat' split) <;> omega), rfl⟩)
theorem cmpFloats_any (a b : Nat) (w : World) : Calls Tryz.prog 135 #[.float .f64 a, .float .f64 b] w fun e w' => e = .returned (.int .i64 (fcmp a b)) ∧ w = w' := by
  go_enter Tryz.func135, Tryz.ntmps135
  go_wp2_with (go_at_call 149; refine (cmpF64_any _ _ _).mono ?_; rintro e w' ⟨rfl, rfl⟩)
  all_goals (go_ret; exact ⟨ret_int (by first | (simp [fcmp, fnan, ford, *]; done) | simp_all [fcmp, fnan, ford]), rfl⟩)
theorem strCompare_any (a b : ByteArray) (w : World) : Calls Tryz.prog 47 #[.string a, .string b] w fun e w' => e = .returned (.int .i64 (scmp a b)) ∧ w = w' := by
  have h1 : ∀ W, (callFunc 105 #[.string a, .string b]).run Tryz.prog W = .ok (.value (.int .i64 (scmp a b))) W := fun W => by
    rw [run_callFunc_extern Tryz.func105 (by kernel_rfl) (by kernel_rfl) (by kernel_rfl) (e := Extern.BytealgCompare.compare) (by kernel_rfl), Lib.run_compareString]
    rfl
  go_enter Tryz.func47, Tryz.ntmps47
  go_wp2
  go_ret
  exact ⟨rfl, rfl⟩
end Go.Proofs.YtmpndmjfdijamaaGreatDoor
