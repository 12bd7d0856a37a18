/- ShapeBoxes: for every input the call answers true, and each argument reads behind it as before. -/
import Derived.Test.YtpgjihkaocahbaaRows
import Derived.Test.YtpgjihkaocahbaaMrowShapeBoxes
namespace Go.Proofs.Ytpgjihkaocahbaa
open Go.ChangeShapes Go.WideShapes Go.ChangeAt Go.RowKit Go.Lan
theorem shapeBoxes_own : ownKnob Try.prog.godebug = none := by kernel_rfl
theorem shapeBoxes_laid : laidOutB Try.prog = true := by kernel_rfl
set_option maxRecDepth 100000 in
theorem shapeBoxes_lifted (os : Os) (started : os.Started) (H : Type) (enc : TypeId × Value → H) :
    ReturnsInHanded {} Try.checked os 4 .any (Rows.shapeBoxesSpec.pre6 enc Try.prog Try.f4 Rows.shapeBoxesRow.domain false) (Rows.shapeBoxesSpec.post enc Try.prog Try.f4 false true false false) := by
  refine returnsInHanded_of_change (C := Try.checked) shapeBoxes_own started (by kernel_rfl) Try.func4
    (ChangeSpec.witness6 (enc := enc) (C := Try.checked) false ⟨#[], #[.agg #[.float .f64 0, .float .f64 0, .float .f64 0], .agg #[.float .f64 0, .float .f64 0, .float .f64 0], .agg #[.float .f64 0, .float .f64 0, .float .f64 0], .float .f64 0, .float .f64 0], []⟩ 8 (by kernel_rfl) (by kernel_rfl) (by kernel_rfl) (by kernel_rfl)) ?_
  intro W base args ds gs before hval0 hW _ _
  have hval : ∀ (j : Nat) t v, Try.f4.params[j]? = some t → args[j]? = some v → Value.okWide Try.prog W .any base t v := hval0
  have hW2 := hW
  obtain ⟨p, q, hA0, hV, rfl, _, _⟩ := hW
  have hA : DataW.TrodAll enc Try.prog W 0 (fun _ => true) true [47, 47, 47, 23, 23] args.toList ds p := hA0
  obtain ⟨rfl, rfl⟩ := trodVars_none hV
  obtain ⟨v0, vs0, d0, ds0, p0, q0, hargs, rfl, rfl, r0, t0⟩ := trodAll_cons hA
  obtain ⟨v1, vs1, d1, ds1, p1, q1, rfl, rfl, rfl, r1, t1⟩ := trodAll_cons t0
  obtain ⟨v2, vs2, d2, ds2, p2, q2, rfl, rfl, rfl, r2, t2⟩ := trodAll_cons t1
  obtain ⟨v3, vs3, d3, ds3, p3, q3, rfl, rfl, rfl, r3, t3⟩ := trodAll_cons t2
  obtain ⟨v4, vs4, d4, ds4, p4, q4, rfl, rfl, rfl, r4, t4⟩ := trodAll_cons t3
  obtain ⟨rfl, rfl, rfl⟩ := trodAll_nil t4
  obtain ⟨args⟩ := args
  simp only at hargs
  subst hargs
  obtain ⟨l0, u0, k0⟩ := open_flat (P := Try.prog) (t := 47) (by kernel_rfl) (ts := [23, 23, 23]) (by kernel_rfl) (ks := LTriple.ks) (by kernel_rfl) (by kernel_rfl) (hval 0 47 v0 rfl rfl)
  obtain ⟨x0, e0, w0⟩ := LTriple.open k0
  rw [e0] at u0
  subst u0
  obtain ⟨l1, u1, k1⟩ := open_flat (P := Try.prog) (t := 47) (by kernel_rfl) (ts := [23, 23, 23]) (by kernel_rfl) (ks := LTriple.ks) (by kernel_rfl) (by kernel_rfl) (hval 1 47 v1 rfl rfl)
  obtain ⟨x1, e1, w1⟩ := LTriple.open k1
  rw [e1] at u1
  subst u1
  obtain ⟨l2, u2, k2⟩ := open_flat (P := Try.prog) (t := 47) (by kernel_rfl) (ts := [23, 23, 23]) (by kernel_rfl) (ks := LTriple.ks) (by kernel_rfl) (by kernel_rfl) (hval 2 47 v2 rfl rfl)
  obtain ⟨x2, e2, w2⟩ := LTriple.open k2
  rw [e2] at u2
  subst u2
  obtain ⟨x3, rfl, w3⟩ := open_leaf (P := Try.prog) (t := 23) (k := .f) (by kernel_rfl) (hval 3 23 v3 rfl rfl)
  obtain ⟨x4, rfl, w4⟩ := open_leaf (P := Try.prog) (t := 23) (k := .f) (by kernel_rfl) (hval 4 23 v4 rfl rfl)
  obtain ⟨hl1, hl2⟩ := plain_ShapeBoxes x0 x1 x2 x3 x4 w0 w1 w2 w3 w4
  have hcall := lanternlaw10_ShapeBoxes.calls x0 x1 x2 x3 x4 hl2 W [x0.val, x1.val, x2.val, (.float .f64 x3), (.float .f64 x4)] (DRL.np rfl (npVs_rel _ rfl))
  rw [hl1] at hcall
  refine Calls.mono hcall fun e W2 ⟨v2, he, hv, hb⟩ => ⟨v2, he, ?_⟩
  cases hv
  exact law_post shapeBoxes_laid (by kernel_rfl) rfl hW2 hb rfl (tb := 4) (by kernel_rfl) rfl
theorem shapeBoxes_holds : Rows.ShapeBoxesSaid :=
  OpenClaim.holds_of_wide 4 Try.f4 rfl rfl rfl rfl rfl rfl rfl ⟨rfl, rfl, rfl, rfl, rfl⟩ rfl rfl rfl rfl rfl (by kernel_rfl) Try.func4 (by kernel_rfl)
    (of_decide_eq_true (by kernel_rfl)) (by unfold Func.isWrapper; rw [if_neg (of_decide_eq_false (by kernel_rfl))]; exact ⟨rfl, rfl⟩)
    (fun os started H enc _ => shapeBoxes_lifted os started H enc)
end Go.Proofs.Ytpgjihkaocahbaa
