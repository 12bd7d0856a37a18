import Derived.Test.YtpgjihkaocahbaaGreatRows
import Derived.Test.YtpgjihkaocahbaaGreatGNdMrowShapeTells
/- ShapeTells: for every input the call answers true, and each argument reads behind it as before. -/
namespace Go.Proofs.YtpgjihkaocahbaaGreat
open Go.ChangeShapes Go.WideShapes Go.ChangeAt Go.RowKit Go.Lan
theorem shapeTells_own : ownKnob Tryz.prog.godebug = none := by kernel_rfl
theorem shapeTells_laid : laidOutB Tryz.prog = true := by kernel_rfl
set_option maxRecDepth 100000 in
theorem shapeTells_lifted (os : Os) (started : os.Started) (H : Type) (enc : TypeId × Value → H) :
    ReturnsInHanded {} Tryz.checked os 3 .any (Rows.shapeTellsSpec.pre6 enc Tryz.prog Tryz.f3 Rows.shapeTellsRow.domain false) (Rows.shapeTellsSpec.post enc Tryz.prog Tryz.f3 false true false false) := by
  refine returnsInHanded_of_change (C := Tryz.checked) shapeTells_own started (by kernel_rfl) Tryz.func3
    (ChangeSpec.witness6 (enc := enc) (C := Tryz.checked) false ⟨#[], #[.agg #[.int .i64 0, .float .f64 0, .float .f64 0, .float .f64 0, .float .f64 0, .float .f64 0, .float .f64 0, .float .f64 0, .float .f64 0, .float .f64 0, .float .f64 0, .float .f64 0, .float .f64 0, .float .f64 0, .float .f64 0, .float .f64 0, .float .f64 0, .float .f64 0, .float .f64 0, .float .f64 0, .float .f64 0], .agg #[.float .f64 0, .float .f64 0, .float .f64 0, .float .f64 0, .float .f64 0, .float .f64 0], .float .f64 0, .float .f64 0], []⟩ 8 (by kernel_rfl) (by kernel_rfl) (by kernel_rfl) (by kernel_rfl)) ?_
  intro W base args ds gs before hval0 hW _ _
  have hval : ∀ (j : Nat) t v, Tryz.f3.params[j]? = some t → args[j]? = some v → Value.okWide Tryz.prog W .any base t v := hval0
  have hW2 := hW
  obtain ⟨p, q, hA0, hV, rfl, _, _⟩ := hW
  have hA : DataW.TrodAll enc Tryz.prog W 0 (fun _ => true) true [30, 27, 23, 23] args.toList ds p := hA0
  obtain ⟨rfl, rfl⟩ := trodVars_none hV
  obtain ⟨v0, vs0, d0, ds0, p0, q0, hargs, rfl, rfl, r0, t0⟩ := trodAll_cons hA
  obtain ⟨v1, vs1, d1, ds1, p1, q1, rfl, rfl, rfl, r1, t1⟩ := trodAll_cons t0
  obtain ⟨v2, vs2, d2, ds2, p2, q2, rfl, rfl, rfl, r2, t2⟩ := trodAll_cons t1
  obtain ⟨v3, vs3, d3, ds3, p3, q3, rfl, rfl, rfl, r3, t3⟩ := trodAll_cons t2
  obtain ⟨rfl, rfl, rfl⟩ := trodAll_nil t3
  obtain ⟨args⟩ := args
  simp only at hargs
  subst hargs
  obtain ⟨l0, u0, k0⟩ := open_flat (P := Tryz.prog) (t := 30) (by kernel_rfl) (ts := [22, 23, 23, 23, 23, 23, 23, 23, 23, 23, 23, 23, 23, 23, 23, 23, 23, 23, 23, 23, 23]) (by kernel_rfl) (ks := LShape.ks) (by kernel_rfl) (by kernel_rfl) (hval 0 30 v0 rfl rfl)
  obtain ⟨x0, e0, w0⟩ := LShape.open k0
  rw [e0] at u0
  subst u0
  obtain ⟨l1, u1, k1⟩ := open_flat (P := Tryz.prog) (t := 27) (by kernel_rfl) (ts := [23, 23, 23, 23, 23, 23]) (by kernel_rfl) (ks := LV3.ks) (by kernel_rfl) (by kernel_rfl) (hval 1 27 v1 rfl rfl)
  obtain ⟨x1, e1, w1⟩ := LV3.open k1
  rw [e1] at u1
  subst u1
  obtain ⟨x2, rfl, w2⟩ := open_leaf (P := Tryz.prog) (t := 23) (k := .f) (by kernel_rfl) (hval 2 23 v2 rfl rfl)
  obtain ⟨x3, rfl, w3⟩ := open_leaf (P := Tryz.prog) (t := 23) (k := .f) (by kernel_rfl) (hval 3 23 v3 rfl rfl)
  obtain ⟨hl1, hl2⟩ := plain_ShapeTells x0 x1 x2 x3 w0 w1 w2 w3
  have hcall := lanternlaw10_ShapeTells.calls x0 x1 x2 x3 hl2 W [x0.val, x1.val, (.float .f64 x2), (.float .f64 x3)] (DRL.np rfl (npVs_rel _ rfl))
  rw [hl1] at hcall
  refine Calls.mono hcall fun e W2 ⟨v2, he, hv, hb⟩ => ⟨v2, he, ?_⟩
  cases hv
  exact law_post shapeTells_laid (by kernel_rfl) rfl hW2 hb rfl (tb := 4) (by kernel_rfl) rfl
theorem shapeTells_holds : Rows.ShapeTellsSaid :=
  OpenClaim.holds_of_wide 3 Tryz.f3 rfl rfl rfl rfl rfl rfl rfl ⟨rfl, rfl, rfl, rfl, rfl⟩ rfl rfl rfl rfl rfl (by kernel_rfl) Tryz.func3 (by kernel_rfl)
    (of_decide_eq_true (by kernel_rfl)) (by unfold Func.isWrapper; rw [if_neg (of_decide_eq_false (by kernel_rfl))]; exact ⟨rfl, rfl⟩)
    (fun os started H enc _ => shapeTells_lifted os started H enc)
end Go.Proofs.YtpgjihkaocahbaaGreat
