import Derived.Test.YtpgjihkaocahbaaLb5
namespace Go.Lan
open Go.Proofs
def shape_sphere.k (_ : Prims) (c72_2 : Int → Int → Int) (c37 : LShape → LRay → LSpan × LSpan × LSpan) (c37ok : LShape → LRay → Bool) (c38 : LSpan → Int) (c39 : LSpan → LSpan → LSpan) (c39ok : LSpan → LSpan → Bool) (c40 : LSpan → LSpan → LSpan) (c40ok : LSpan → LSpan → Bool) (c42 : Int → LSpan → LHit) (c45 : LSpan → LSpan → LSpan) (c45ok : LSpan → LSpan → Bool) (c46 : LSpan → LSpan → LSpan) (c46ok : LSpan → LSpan → Bool) (c47 : LSpan → LSpan) (c47ok : LSpan → Bool) (c60 : LSpan → LSpan) (c73 : LSpan → Int) (c74 : LSpan → LSpan) (c74ok : LSpan → Bool) (s : LShape) (r : LRay) (k : LHit → R) : R :=
  let x1 := c37 s r
  cond (c37ok s r)
    (let x2 := c74 x1.2.1
     cond (c74ok x1.2.1)
       (let x3 := c40 x1.1 x1.2.2
        cond (c40ok x1.1 x1.2.2)
          (let x4 := c45 x2 x3
           cond (c45ok x2 x3)
             (let x7 := c72_2 (c38 x1.1) (c73 x4)
              cond ((x7 : Int) != 1)
                (k (⟨x7, (⟨0, 0⟩ : LSpan), (⟨0, 0⟩ : LSpan), (⟨0, 0⟩ : LSpan)⟩ : LHit))
                (let x9 := c47 x4
                 cond (c47ok x4)
                   (let x10 := c60 x1.2.1
                    let x11 := c45 x10 x9
                    cond (c45ok x10 x9)
                      (let x12 := c39 x11 x1.1
                       cond (c39ok x11 x1.1)
                         (let x13 := c38 x12
                          cond ((x13 : Int) != 0)
                            (k (c42 x13 x12))
                            (let x16 := c60 x1.2.1
                             let x17 := c46 x16 x9
                             cond (c46ok x16 x9)
                               (let x18 := c39 x17 x1.1
                                cond (c39ok x17 x1.1)
                                  (k (c42 (c38 x18) x18))
                                  (none))
                               (none)))
                         (none))
                      (none))
                   (none)))
             (none))
          (none))
       (none))
    (none)
def shape_sphere (M : Prims) (s : LShape) (r : LRay) : LHit :=
  let x1 := shape_quad M s r
  let x4 := span_Sub M (span_Sqr M x1.2.1) (span_Mul M x1.1 x1.2.2)
  let x7 := shape_all_s2 M (span_Positive M x1.1) (shape_atLeast M x4)
  cond ((x7 : Int) != 1)
    ((⟨x7, (⟨0, 0⟩ : LSpan), (⟨0, 0⟩ : LSpan), (⟨0, 0⟩ : LSpan)⟩ : LHit))
    (let x9 := span_Sqrt M x4
     let x12 := span_Div M (span_Sub M (span_Neg M x1.2.1) x9) x1.1
     let x13 := span_Positive M x12
     cond ((x13 : Int) != 0)
       ((shape_hit M x13 x12))
       (let x18 := span_Div M (span_Add M (span_Neg M x1.2.1) x9) x1.1
        (shape_hit M (span_Positive M x18) x18)))
def shape_sphere.ok (M : Prims) (s : LShape) (r : LRay) : Bool :=
  let x1 := shape_quad M s r
  cond (shape_quad.ok M s r)
    (let x2 := span_Sqr M x1.2.1
     cond (span_Sqr.ok M x1.2.1)
       (let x3 := span_Mul M x1.1 x1.2.2
        cond (span_Mul.ok M x1.1 x1.2.2)
          (let x4 := span_Sub M x2 x3
           cond (span_Sub.ok M x2 x3)
             (cond (((shape_all_s2 M (span_Positive M x1.1) (shape_atLeast M x4)) : Int) != 1)
                (true)
                (let x9 := span_Sqrt M x4
                 cond (span_Sqrt.ok M x4)
                   (let x10 := span_Neg M x1.2.1
                    let x11 := span_Sub M x10 x9
                    cond (span_Sub.ok M x10 x9)
                      (cond (span_Div.ok M x11 x1.1)
                         (cond (((span_Positive M (span_Div M x11 x1.1)) : Int) != 0)
                            (true)
                            (let x16 := span_Neg M x1.2.1
                             let x17 := span_Add M x16 x9
                             cond (span_Add.ok M x16 x9)
                               (cond (span_Div.ok M x17 x1.1)
                                  (true)
                                  (false))
                               (false)))
                         (false))
                      (false))
                   (false)))
             (false))
          (false))
       (false))
    (false)
def shape_sphere.fns (c72_2 : Int → Int → Int) (c37 : LShape → LRay → LSpan × LSpan × LSpan) (c37ok : LShape → LRay → Bool) (c38 : LSpan → Int) (c39 : LSpan → LSpan → LSpan) (c39ok : LSpan → LSpan → Bool) (c40 : LSpan → LSpan → LSpan) (c40ok : LSpan → LSpan → Bool) (c42 : Int → LSpan → LHit) (c45 : LSpan → LSpan → LSpan) (c45ok : LSpan → LSpan → Bool) (c46 : LSpan → LSpan → LSpan) (c46ok : LSpan → LSpan → Bool) (c47 : LSpan → LSpan) (c47ok : LSpan → Bool) (c60 : LSpan → LSpan) (c73 : LSpan → Int) (c74 : LSpan → LSpan) (c74ok : LSpan → Bool) : FuncId → List Value → Option (Bool × Value) := ifId 72 (shape_all_s2.ph c72_2) <| ifId 37 (shape_quad.ph c37 c37ok) <| ifId 38 (span_Positive.ph c38) <| ifId 39 (span_Div.ph c39 c39ok) <| ifId 40 (span_Mul.ph c40 c40ok) <| ifId 42 (shape_hit.ph c42) <| ifId 45 (span_Sub.ph c45 c45ok) <| ifId 46 (span_Add.ph c46 c46ok) <| ifId 47 (span_Sqrt.ph c47 c47ok) <| ifId 60 (span_Neg.ph c60) <| ifId 73 (shape_atLeast.ph c73) <| ifId 74 (span_Sqr.ph c74 c74ok) <| noFns
theorem shape_sphere.fnsOK : PureFns Try.prog (shape_sphere.fns (shape_all_s2 M0) (shape_quad M0) (shape_quad.ok M0) (span_Positive M0) (span_Div M0) (span_Div.ok M0) (span_Mul M0) (span_Mul.ok M0) (shape_hit M0) (span_Sub M0) (span_Sub.ok M0) (span_Add M0) (span_Add.ok M0) (span_Sqrt M0) (span_Sqrt.ok M0) (span_Neg M0) (shape_atLeast M0) (span_Sqr M0) (span_Sqr.ok M0)) := ifIdOK shape_all_s2.phOK <| ifIdOK shape_quad.phOK <| ifIdOK span_Positive.phOK <| ifIdOK span_Div.phOK <| ifIdOK span_Mul.phOK <| ifIdOK shape_hit.phOK <| ifIdOK span_Sub.phOK <| ifIdOK span_Add.phOK <| ifIdOK span_Sqrt.phOK <| ifIdOK span_Neg.phOK <| ifIdOK shape_atLeast.phOK <| ifIdOK span_Sqr.phOK <| noFnsOK
theorem shape_sphere.ev (M : Prims) (c72_2 : Int → Int → Int) (c37 : LShape → LRay → LSpan × LSpan × LSpan) (c37ok : LShape → LRay → Bool) (c38 : LSpan → Int) (c39 : LSpan → LSpan → LSpan) (c39ok : LSpan → LSpan → Bool) (c40 : LSpan → LSpan → LSpan) (c40ok : LSpan → LSpan → Bool) (c42 : Int → LSpan → LHit) (c45 : LSpan → LSpan → LSpan) (c45ok : LSpan → LSpan → Bool) (c46 : LSpan → LSpan → LSpan) (c46ok : LSpan → LSpan → Bool) (c47 : LSpan → LSpan) (c47ok : LSpan → Bool) (c60 : LSpan → LSpan) (c73 : LSpan → Int) (c74 : LSpan → LSpan) (c74ok : LSpan → Bool)  (s : LShape) (r : LRay) : evP tab M (shape_sphere.fns c72_2 c37 c37ok c38 c39 c39ok c40 c40ok c42 c45 c45ok c46 c46ok c47 c47ok c60 c73 c74 c74ok) noLoops 300 Try.f36 [s.val, r.val] = shape_sphere.k M c72_2 c37 c37ok c38 c39 c39ok c40 c40ok c42 c45 c45ok c46 c46ok c47 c47ok c60 c73 c74 c74ok  s r (fun r => some (r.val, [])) := by kernel_rfl
theorem shape_sphere.k_eq (M : Prims) (s : LShape) (r : LRay) (k : LHit → R) : shape_sphere.ok M s r = true → shape_sphere.k M (shape_all_s2 M) (shape_quad M) (shape_quad.ok M) (span_Positive M) (span_Div M) (span_Div.ok M) (span_Mul M) (span_Mul.ok M) (shape_hit M) (span_Sub M) (span_Sub.ok M) (span_Add M) (span_Add.ok M) (span_Sqrt M) (span_Sqrt.ok M) (span_Neg M) (shape_atLeast M) (span_Sqr M) (span_Sqr.ok M) s r k = k (shape_sphere M s r) := by
  unfold shape_sphere.ok shape_sphere.k shape_sphere
  exact kL (kL (kL (kL (kC (fun _ => rfl) (kL (kL (kL (kC (fun _ => rfl) (kL (kL (fun _ => rfl)))))))))))
theorem shape_sphere.call (s : LShape) (r : LRay) (h : shape_sphere.ok M0 s r = true) : PureOK Try.prog 36 [s.val, r.val] ((shape_sphere M0 s r).val) :=
  evP_sound (P := Try.prog) mixed tabOK shape_sphere.fnsOK Try.func36 rfl (Λ := noLoops) (c := Try.f36.body.getD .skip) rfl (noLoopsOK _) rfl (Nat.zero_le 1) rfl rfl ((shape_sphere.ev M0 (shape_all_s2 M0) (shape_quad M0) (shape_quad.ok M0) (span_Positive M0) (span_Div M0) (span_Div.ok M0) (span_Mul M0) (span_Mul.ok M0) (shape_hit M0) (span_Sub M0) (span_Sub.ok M0) (span_Add M0) (span_Add.ok M0) (span_Sqrt M0) (span_Sqrt.ok M0) (span_Neg M0) (shape_atLeast M0) (span_Sqr M0) (span_Sqr.ok M0) s r).trans (shape_sphere.k_eq M0 s r _ h))
def shape_sphere.ph (c36 : LShape → LRay → LHit) (c36ok : LShape → LRay → Bool) : Ph := fun args => match args with
  | [.agg ⟨[.int .i64 a0_0, .float .f64 a0_1, .float .f64 a0_2, .float .f64 a0_3, .float .f64 a0_4, .float .f64 a0_5, .float .f64 a0_6, .float .f64 a0_7, .float .f64 a0_8, .float .f64 a0_9, .float .f64 a0_10, .float .f64 a0_11, .float .f64 a0_12, .float .f64 a0_13, .float .f64 a0_14, .float .f64 a0_15, .float .f64 a0_16, .float .f64 a0_17, .float .f64 a0_18, .float .f64 a0_19, .float .f64 a0_20]⟩, .agg ⟨[.float .f64 a1_0, .float .f64 a1_1, .float .f64 a1_2, .float .f64 a1_3, .float .f64 a1_4, .float .f64 a1_5, .float .f64 a1_6, .float .f64 a1_7, .float .f64 a1_8, .float .f64 a1_9, .float .f64 a1_10, .float .f64 a1_11]⟩] => some (c36ok (⟨a0_0, ⟨⟨⟨a0_1, a0_2⟩, ⟨a0_3, a0_4⟩, ⟨a0_5, a0_6⟩⟩, ⟨⟨a0_7, a0_8⟩, ⟨a0_9, a0_10⟩, ⟨a0_11, a0_12⟩⟩, ⟨⟨a0_13, a0_14⟩, ⟨a0_15, a0_16⟩, ⟨a0_17, a0_18⟩⟩⟩, ⟨a0_19, a0_20⟩⟩ : LShape) (⟨⟨⟨a1_0, a1_1⟩, ⟨a1_2, a1_3⟩, ⟨a1_4, a1_5⟩⟩, ⟨⟨a1_6, a1_7⟩, ⟨a1_8, a1_9⟩, ⟨a1_10, a1_11⟩⟩⟩ : LRay), (c36 (⟨a0_0, ⟨⟨⟨a0_1, a0_2⟩, ⟨a0_3, a0_4⟩, ⟨a0_5, a0_6⟩⟩, ⟨⟨a0_7, a0_8⟩, ⟨a0_9, a0_10⟩, ⟨a0_11, a0_12⟩⟩, ⟨⟨a0_13, a0_14⟩, ⟨a0_15, a0_16⟩, ⟨a0_17, a0_18⟩⟩⟩, ⟨a0_19, a0_20⟩⟩ : LShape) (⟨⟨⟨a1_0, a1_1⟩, ⟨a1_2, a1_3⟩, ⟨a1_4, a1_5⟩⟩, ⟨⟨a1_6, a1_7⟩, ⟨a1_8, a1_9⟩, ⟨a1_10, a1_11⟩⟩⟩ : LRay)).val)
  | _ => none
theorem shape_sphere.phOK : PhOK Try.prog 36 (shape_sphere.ph (shape_sphere M0) (shape_sphere.ok M0)) := ⟨by
  intro args v h
  unfold shape_sphere.ph at h
  split at h
  · rename_i a0_0 a0_1 a0_2 a0_3 a0_4 a0_5 a0_6 a0_7 a0_8 a0_9 a0_10 a0_11 a0_12 a0_13 a0_14 a0_15 a0_16 a0_17 a0_18 a0_19 a0_20 a1_0 a1_1 a1_2 a1_3 a1_4 a1_5 a1_6 a1_7 a1_8 a1_9 a1_10 a1_11
    simp only [Option.some.injEq, Prod.mk.injEq] at h
    obtain ⟨hok, rfl⟩ := h
    exact ⟨rfl, rfl, shape_sphere.call (⟨a0_0, ⟨⟨⟨a0_1, a0_2⟩, ⟨a0_3, a0_4⟩, ⟨a0_5, a0_6⟩⟩, ⟨⟨a0_7, a0_8⟩, ⟨a0_9, a0_10⟩, ⟨a0_11, a0_12⟩⟩, ⟨⟨a0_13, a0_14⟩, ⟨a0_15, a0_16⟩, ⟨a0_17, a0_18⟩⟩⟩, ⟨a0_19, a0_20⟩⟩ : LShape) (⟨⟨⟨a1_0, a1_1⟩, ⟨a1_2, a1_3⟩, ⟨a1_4, a1_5⟩⟩, ⟨⟨a1_6, a1_7⟩, ⟨a1_8, a1_9⟩, ⟨a1_10, a1_11⟩⟩⟩ : LRay) hok⟩
  · cases h⟩
def shape_Meet.k (_ : Prims) (c35 : LShape → LRay → LHit) (c35ok : LShape → LRay → Bool) (c36 : LShape → LRay → LHit) (c36ok : LShape → LRay → Bool) (s : LShape) (r : LRay) (k : LHit → R) : R :=
  cond ((s.kind : Int) == 1)
    (cond (c35ok s r)
       (k (c35 s r))
       (none))
    (cond ((s.kind : Int) == 2)
       (cond (c36ok s r)
          (k (c36 s r))
          (none))
       (k (⟨0, (⟨0, 0⟩ : LSpan), (⟨0, 0⟩ : LSpan), (⟨0, 0⟩ : LSpan)⟩ : LHit)))
def shape_Meet (M : Prims) (s : LShape) (r : LRay) : LHit :=
  cond ((s.kind : Int) == 1)
    ((shape_triangle M s r))
    (cond ((s.kind : Int) == 2)
       ((shape_sphere M s r))
       ((⟨0, (⟨0, 0⟩ : LSpan), (⟨0, 0⟩ : LSpan), (⟨0, 0⟩ : LSpan)⟩ : LHit)))
def shape_Meet.ok (M : Prims) (s : LShape) (r : LRay) : Bool :=
  cond ((s.kind : Int) == 1)
    (cond (shape_triangle.ok M s r)
       (true)
       (false))
    (cond ((s.kind : Int) == 2)
       (cond (shape_sphere.ok M s r)
          (true)
          (false))
       (true))
def shape_Meet.fns (c35 : LShape → LRay → LHit) (c35ok : LShape → LRay → Bool) (c36 : LShape → LRay → LHit) (c36ok : LShape → LRay → Bool) : FuncId → List Value → Option (Bool × Value) := ifId 35 (shape_triangle.ph c35 c35ok) <| ifId 36 (shape_sphere.ph c36 c36ok) <| noFns
theorem shape_Meet.fnsOK : PureFns Try.prog (shape_Meet.fns (shape_triangle M0) (shape_triangle.ok M0) (shape_sphere M0) (shape_sphere.ok M0)) := ifIdOK shape_triangle.phOK <| ifIdOK shape_sphere.phOK <| noFnsOK
theorem shape_Meet.ev (M : Prims) (c35 : LShape → LRay → LHit) (c35ok : LShape → LRay → Bool) (c36 : LShape → LRay → LHit) (c36ok : LShape → LRay → Bool)  (s : LShape) (r : LRay) : evP tab M (shape_Meet.fns c35 c35ok c36 c36ok) noLoops 300 Try.f13 [s.val, r.val] = shape_Meet.k M c35 c35ok c36 c36ok  s r (fun r => some (r.val, [])) := by kernel_rfl
theorem shape_Meet.k_eq (M : Prims) (s : LShape) (r : LRay) (k : LHit → R) : shape_Meet.ok M s r = true → shape_Meet.k M (shape_triangle M) (shape_triangle.ok M) (shape_sphere M) (shape_sphere.ok M) s r k = k (shape_Meet M s r) := by
  unfold shape_Meet.ok shape_Meet.k shape_Meet
  exact kC (kL (fun _ => rfl)) (kC (kL (fun _ => rfl)) (fun _ => rfl))
theorem shape_Meet.call (s : LShape) (r : LRay) (h : shape_Meet.ok M0 s r = true) : PureOK Try.prog 13 [s.val, r.val] ((shape_Meet M0 s r).val) :=
  evP_sound (P := Try.prog) mixed tabOK shape_Meet.fnsOK Try.func13 rfl (Λ := noLoops) (c := Try.f13.body.getD .skip) rfl (noLoopsOK _) rfl (Nat.zero_le 1) rfl rfl ((shape_Meet.ev M0 (shape_triangle M0) (shape_triangle.ok M0) (shape_sphere M0) (shape_sphere.ok M0) s r).trans (shape_Meet.k_eq M0 s r _ h))
def shape_Meet.ph (c13 : LShape → LRay → LHit) (c13ok : LShape → LRay → Bool) : Ph := fun args => match args with
  | [.agg ⟨[.int .i64 a0_0, .float .f64 a0_1, .float .f64 a0_2, .float .f64 a0_3, .float .f64 a0_4, .float .f64 a0_5, .float .f64 a0_6, .float .f64 a0_7, .float .f64 a0_8, .float .f64 a0_9, .float .f64 a0_10, .float .f64 a0_11, .float .f64 a0_12, .float .f64 a0_13, .float .f64 a0_14, .float .f64 a0_15, .float .f64 a0_16, .float .f64 a0_17, .float .f64 a0_18, .float .f64 a0_19, .float .f64 a0_20]⟩, .agg ⟨[.float .f64 a1_0, .float .f64 a1_1, .float .f64 a1_2, .float .f64 a1_3, .float .f64 a1_4, .float .f64 a1_5, .float .f64 a1_6, .float .f64 a1_7, .float .f64 a1_8, .float .f64 a1_9, .float .f64 a1_10, .float .f64 a1_11]⟩] => some (c13ok (⟨a0_0, ⟨⟨⟨a0_1, a0_2⟩, ⟨a0_3, a0_4⟩, ⟨a0_5, a0_6⟩⟩, ⟨⟨a0_7, a0_8⟩, ⟨a0_9, a0_10⟩, ⟨a0_11, a0_12⟩⟩, ⟨⟨a0_13, a0_14⟩, ⟨a0_15, a0_16⟩, ⟨a0_17, a0_18⟩⟩⟩, ⟨a0_19, a0_20⟩⟩ : LShape) (⟨⟨⟨a1_0, a1_1⟩, ⟨a1_2, a1_3⟩, ⟨a1_4, a1_5⟩⟩, ⟨⟨a1_6, a1_7⟩, ⟨a1_8, a1_9⟩, ⟨a1_10, a1_11⟩⟩⟩ : LRay), (c13 (⟨a0_0, ⟨⟨⟨a0_1, a0_2⟩, ⟨a0_3, a0_4⟩, ⟨a0_5, a0_6⟩⟩, ⟨⟨a0_7, a0_8⟩, ⟨a0_9, a0_10⟩, ⟨a0_11, a0_12⟩⟩, ⟨⟨a0_13, a0_14⟩, ⟨a0_15, a0_16⟩, ⟨a0_17, a0_18⟩⟩⟩, ⟨a0_19, a0_20⟩⟩ : LShape) (⟨⟨⟨a1_0, a1_1⟩, ⟨a1_2, a1_3⟩, ⟨a1_4, a1_5⟩⟩, ⟨⟨a1_6, a1_7⟩, ⟨a1_8, a1_9⟩, ⟨a1_10, a1_11⟩⟩⟩ : LRay)).val)
  | _ => none
theorem shape_Meet.phOK : PhOK Try.prog 13 (shape_Meet.ph (shape_Meet M0) (shape_Meet.ok M0)) := ⟨by
  intro args v h
  unfold shape_Meet.ph at h
  split at h
  · rename_i a0_0 a0_1 a0_2 a0_3 a0_4 a0_5 a0_6 a0_7 a0_8 a0_9 a0_10 a0_11 a0_12 a0_13 a0_14 a0_15 a0_16 a0_17 a0_18 a0_19 a0_20 a1_0 a1_1 a1_2 a1_3 a1_4 a1_5 a1_6 a1_7 a1_8 a1_9 a1_10 a1_11
    simp only [Option.some.injEq, Prod.mk.injEq] at h
    obtain ⟨hok, rfl⟩ := h
    exact ⟨rfl, rfl, shape_Meet.call (⟨a0_0, ⟨⟨⟨a0_1, a0_2⟩, ⟨a0_3, a0_4⟩, ⟨a0_5, a0_6⟩⟩, ⟨⟨a0_7, a0_8⟩, ⟨a0_9, a0_10⟩, ⟨a0_11, a0_12⟩⟩, ⟨⟨a0_13, a0_14⟩, ⟨a0_15, a0_16⟩, ⟨a0_17, a0_18⟩⟩⟩, ⟨a0_19, a0_20⟩⟩ : LShape) (⟨⟨⟨a1_0, a1_1⟩, ⟨a1_2, a1_3⟩, ⟨a1_4, a1_5⟩⟩, ⟨⟨a1_6, a1_7⟩, ⟨a1_8, a1_9⟩, ⟨a1_10, a1_11⟩⟩⟩ : LRay) hok⟩
  · cases h⟩
def lanternlaw10_Ball.k (_ : Prims) (c22 : LTriple → LV3) (c51 : Nat → LSpan) (c : LTriple) (r : Nat) (k : LShape → R) : R :=
  k (⟨2, (⟨(c22 c), (⟨(⟨0, 0⟩ : LSpan), (⟨0, 0⟩ : LSpan), (⟨0, 0⟩ : LSpan)⟩ : LV3), (⟨(⟨0, 0⟩ : LSpan), (⟨0, 0⟩ : LSpan), (⟨0, 0⟩ : LSpan)⟩ : LV3)⟩ : LA3V3), (c51 r)⟩ : LShape)
def lanternlaw10_Ball (M : Prims) (c : LTriple) (r : Nat) : LShape :=
  (⟨2, (⟨(lanternref03_Of M c), (⟨(⟨0, 0⟩ : LSpan), (⟨0, 0⟩ : LSpan), (⟨0, 0⟩ : LSpan)⟩ : LV3), (⟨(⟨0, 0⟩ : LSpan), (⟨0, 0⟩ : LSpan), (⟨0, 0⟩ : LSpan)⟩ : LV3)⟩ : LA3V3), (lanternref02_Of M r)⟩ : LShape)
def lanternlaw10_Ball.fns (c22 : LTriple → LV3) (c51 : Nat → LSpan) : FuncId → List Value → Option (Bool × Value) := ifId 22 (lanternref03_Of.ph c22) <| ifId 51 (lanternref02_Of.ph c51) <| noFns
theorem lanternlaw10_Ball.fnsOK : PureFns Try.prog (lanternlaw10_Ball.fns (lanternref03_Of M0) (lanternref02_Of M0)) := ifIdOK lanternref03_Of.phOK <| ifIdOK lanternref02_Of.phOK <| noFnsOK
theorem lanternlaw10_Ball.ev (M : Prims) (c22 : LTriple → LV3) (c51 : Nat → LSpan)  (c : LTriple) (r : Nat) : evP tab M (lanternlaw10_Ball.fns c22 c51) noLoops 300 Try.f29 [c.val, (.float .f64 r)] = lanternlaw10_Ball.k M c22 c51  c r (fun r => some (r.val, [])) := by kernel_rfl
theorem lanternlaw10_Ball.k_eq (M : Prims) (c : LTriple) (r : Nat) (k : LShape → R) : lanternlaw10_Ball.k M (lanternref03_Of M) (lanternref02_Of M) c r k = k (lanternlaw10_Ball M c r) := by
  unfold lanternlaw10_Ball.k lanternlaw10_Ball
  exact rfl
theorem lanternlaw10_Ball.call (c : LTriple) (r : Nat) : PureOK Try.prog 29 [c.val, (.float .f64 r)] ((lanternlaw10_Ball M0 c r).val) :=
  evP_sound (P := Try.prog) mixed tabOK lanternlaw10_Ball.fnsOK Try.func29 rfl (Λ := noLoops) (c := Try.f29.body.getD .skip) rfl (noLoopsOK _) rfl (Nat.zero_le 1) rfl rfl ((lanternlaw10_Ball.ev M0 (lanternref03_Of M0) (lanternref02_Of M0) c r).trans (lanternlaw10_Ball.k_eq M0 c r _))
def lanternlaw10_Ball.ph (c29 : LTriple → Nat → LShape) : Ph := fun args => match args with
  | [.agg ⟨[.float .f64 a0_0, .float .f64 a0_1, .float .f64 a0_2]⟩, .float .f64 a1_] => some (true, (c29 (⟨a0_0, a0_1, a0_2⟩ : LTriple) a1_).val)
  | _ => none
theorem lanternlaw10_Ball.phOK : PhOK Try.prog 29 (lanternlaw10_Ball.ph (lanternlaw10_Ball M0)) := ⟨by
  intro args v h
  unfold lanternlaw10_Ball.ph at h
  split at h
  · rename_i a0_0 a0_1 a0_2 a1_
    simp only [Option.some.injEq, Prod.mk.injEq, true_and] at h
    subst h
    exact ⟨rfl, rfl, lanternlaw10_Ball.call (⟨a0_0, a0_1, a0_2⟩ : LTriple) a1_⟩
  · cases h⟩
def lanternlaw10_Awake.k (M : Prims) (c13 : LShape → LRay → LHit) (c13ok : LShape → LRay → Bool) (c17 : LTriple → LTriple → LTriple → LShape) (c28 : LTriple → LTriple → LRay) (c29 : LTriple → Nat → LShape) (k : Bool → R) : R :=
  let x1 := c17 (⟨0, 0, 0⟩ : LTriple) (⟨4607182418800017408, 0, 0⟩ : LTriple) (⟨0, 4607182418800017408, 0⟩ : LTriple)
  let x2 := c28 (⟨4598175219545276416, 4598175219545276416, 4607182418800017408⟩ : LTriple) (⟨0, 0, 13830554455654793216⟩ : LTriple)
  let x3 := c13 x1 x2
  cond (c13ok x1 x2)
    (let x4 := c29 (⟨0, 0, 0⟩ : LTriple) 4607182418800017408
     let x5 := c28 (⟨0, 0, 4613937818241073152⟩ : LTriple) (⟨0, 0, 13830554455654793216⟩ : LTriple)
     let x6 := c13 x4 x5
     cond (c13ok x4 x5)
       (cond ((x3.answer : Int) == 1)
          (cond (M.eq x3.t.lo 4607182418800017408 && (M.eq x3.t.hi 4607182418800017408 && true))
             (cond ((x6.answer : Int) == 1)
                (k (M.eq x6.t.lo 4611686018427387904 && (M.eq x6.t.hi 4611686018427387904 && true)))
                (k false))
             (k false))
          (k false))
       (none))
    (none)
def lanternlaw10_Awake (M : Prims) : Bool :=
  let x3 := shape_Meet M (lanternlaw10_Tri M (⟨0, 0, 0⟩ : LTriple) (⟨4607182418800017408, 0, 0⟩ : LTriple) (⟨0, 4607182418800017408, 0⟩ : LTriple)) (lanternlaw10_Beam M (⟨4598175219545276416, 4598175219545276416, 4607182418800017408⟩ : LTriple) (⟨0, 0, 13830554455654793216⟩ : LTriple))
  let x6 := shape_Meet M (lanternlaw10_Ball M (⟨0, 0, 0⟩ : LTriple) 4607182418800017408) (lanternlaw10_Beam M (⟨0, 0, 4613937818241073152⟩ : LTriple) (⟨0, 0, 13830554455654793216⟩ : LTriple))
  cond ((x3.answer : Int) == 1)
    (cond (M.eq x3.t.lo 4607182418800017408 && (M.eq x3.t.hi 4607182418800017408 && true))
       (cond ((x6.answer : Int) == 1)
          ((M.eq x6.t.lo 4611686018427387904 && (M.eq x6.t.hi 4611686018427387904 && true)))
          (false))
       (false))
    (false)
def lanternlaw10_Awake.ok (M : Prims) : Bool :=
  let x1 := lanternlaw10_Tri M (⟨0, 0, 0⟩ : LTriple) (⟨4607182418800017408, 0, 0⟩ : LTriple) (⟨0, 4607182418800017408, 0⟩ : LTriple)
  let x2 := lanternlaw10_Beam M (⟨4598175219545276416, 4598175219545276416, 4607182418800017408⟩ : LTriple) (⟨0, 0, 13830554455654793216⟩ : LTriple)
  cond (shape_Meet.ok M x1 x2)
    (let x4 := lanternlaw10_Ball M (⟨0, 0, 0⟩ : LTriple) 4607182418800017408
     let x5 := lanternlaw10_Beam M (⟨0, 0, 4613937818241073152⟩ : LTriple) (⟨0, 0, 13830554455654793216⟩ : LTriple)
     cond (shape_Meet.ok M x4 x5)
       (true)
       (false))
    (false)
def lanternlaw10_Awake.fns (c13 : LShape → LRay → LHit) (c13ok : LShape → LRay → Bool) (c17 : LTriple → LTriple → LTriple → LShape) (c28 : LTriple → LTriple → LRay) (c29 : LTriple → Nat → LShape) : FuncId → List Value → Option (Bool × Value) := ifId 13 (shape_Meet.ph c13 c13ok) <| ifId 17 (lanternlaw10_Tri.ph c17) <| ifId 28 (lanternlaw10_Beam.ph c28) <| ifId 29 (lanternlaw10_Ball.ph c29) <| noFns
theorem lanternlaw10_Awake.fnsOK : PureFns Try.prog (lanternlaw10_Awake.fns (shape_Meet M0) (shape_Meet.ok M0) (lanternlaw10_Tri M0) (lanternlaw10_Beam M0) (lanternlaw10_Ball M0)) := ifIdOK shape_Meet.phOK <| ifIdOK lanternlaw10_Tri.phOK <| ifIdOK lanternlaw10_Beam.phOK <| ifIdOK lanternlaw10_Ball.phOK <| noFnsOK
theorem lanternlaw10_Awake.ev (M : Prims) (c13 : LShape → LRay → LHit) (c13ok : LShape → LRay → Bool) (c17 : LTriple → LTriple → LTriple → LShape) (c28 : LTriple → LTriple → LRay) (c29 : LTriple → Nat → LShape)   : evP tab M (lanternlaw10_Awake.fns c13 c13ok c17 c28 c29) noLoops 300 Try.f8 [] = lanternlaw10_Awake.k M c13 c13ok c17 c28 c29   (fun r => some ((.bool r), [])) := by kernel_rfl
theorem lanternlaw10_Awake.k_eq (M : Prims)  (k : Bool → R) : lanternlaw10_Awake.ok M  = true → lanternlaw10_Awake.k M (shape_Meet M) (shape_Meet.ok M) (lanternlaw10_Tri M) (lanternlaw10_Beam M) (lanternlaw10_Ball M)  k = k (lanternlaw10_Awake M ) := by
  unfold lanternlaw10_Awake.ok lanternlaw10_Awake.k lanternlaw10_Awake
  exact kL (kL (fun _ => pC (pC (pC rfl rfl) rfl) rfl))
theorem lanternlaw10_Awake.call  (h : lanternlaw10_Awake.ok M0  = true) : PureOK Try.prog 8 [] (.bool (lanternlaw10_Awake M0 )) :=
  evP_sound (P := Try.prog) mixed tabOK lanternlaw10_Awake.fnsOK Try.func8 rfl (Λ := noLoops) (c := Try.f8.body.getD .skip) rfl (noLoopsOK _) rfl (Nat.zero_le 1) rfl rfl ((lanternlaw10_Awake.ev M0 (shape_Meet M0) (shape_Meet.ok M0) (lanternlaw10_Tri M0) (lanternlaw10_Beam M0) (lanternlaw10_Ball M0) ).trans (lanternlaw10_Awake.k_eq M0  _ h))
def lanternlaw10_Awake.ph (c8 : Bool) (c8ok : Bool) : Ph := fun args => match args with
  | [] => some (c8ok, (.bool (c8)))
  | _ => none
theorem lanternlaw10_Awake.phOK : PhOK Try.prog 8 (lanternlaw10_Awake.ph (lanternlaw10_Awake M0) (lanternlaw10_Awake.ok M0)) := ⟨by
  intro args v h
  unfold lanternlaw10_Awake.ph at h
  split at h
  · simp only [Option.some.injEq, Prod.mk.injEq] at h
    obtain ⟨hok, rfl⟩ := h
    exact ⟨rfl, rfl, lanternlaw10_Awake.call  hok⟩
  · cases h⟩
def lanternref02_minus.k (M : Prims) (c95 : Nat → Int) (c95ok : Nat → Bool) (x : Nat) (k : Bool → R) : R :=
  cond (M.eq x 0)
    (cond (c95ok x)
       (k (((c95 x) : Int) != 0))
       (none))
    (k false)
def lanternref02_minus (M : Prims) (x : Nat) : Bool :=
  cond (M.eq x 0)
    ((((f64bits x) : Int) != 0))
    (false)
def lanternref02_minus.ok (M : Prims) (x : Nat) : Bool :=
  cond (M.eq x 0)
    (cond (f64bits.ok x)
       (true)
       (false))
    (true)
def lanternref02_minus.fns (c95 : Nat → Int) (c95ok : Nat → Bool) : FuncId → List Value → Option (Bool × Value) := ifId 95 (f64bits.ph c95 c95ok) <| noFns
theorem lanternref02_minus.fnsOK : PureFns Try.prog (lanternref02_minus.fns f64bits f64bits.ok) := ifIdOK f64bits.phOK <| noFnsOK
theorem lanternref02_minus.ev (M : Prims) (c95 : Nat → Int) (c95ok : Nat → Bool)  (x : Nat) : evP tab M (lanternref02_minus.fns c95 c95ok) noLoops 300 Try.f68 [(.float .f64 x)] = lanternref02_minus.k M c95 c95ok  x (fun r => some ((.bool r), [])) := by kernel_rfl
theorem lanternref02_minus.k_eq (M : Prims) (x : Nat) (k : Bool → R) : lanternref02_minus.ok M x = true → lanternref02_minus.k M f64bits f64bits.ok x k = k (lanternref02_minus M x) := by
  unfold lanternref02_minus.ok lanternref02_minus.k lanternref02_minus
  exact kC (kL (fun _ => rfl)) (fun _ => rfl)
theorem lanternref02_minus.call (x : Nat) (h : lanternref02_minus.ok M0 x = true) : PureOK Try.prog 68 [(.float .f64 x)] (.bool (lanternref02_minus M0 x)) :=
  evP_sound (P := Try.prog) mixed tabOK lanternref02_minus.fnsOK Try.func68 rfl (Λ := noLoops) (c := Try.f68.body.getD .skip) rfl (noLoopsOK _) rfl (Nat.zero_le 1) rfl rfl ((lanternref02_minus.ev M0 f64bits f64bits.ok x).trans (lanternref02_minus.k_eq M0 x _ h))
def lanternref02_minus.ph (c68 : Nat → Bool) (c68ok : Nat → Bool) : Ph := fun args => match args with
  | [.float .f64 a0_] => some (c68ok a0_, (.bool (c68 a0_)))
  | _ => none
theorem lanternref02_minus.phOK : PhOK Try.prog 68 (lanternref02_minus.ph (lanternref02_minus M0) (lanternref02_minus.ok M0)) := ⟨by
  intro args v h
  unfold lanternref02_minus.ph at h
  split at h
  · rename_i a0_
    simp only [Option.some.injEq, Prod.mk.injEq] at h
    obtain ⟨hok, rfl⟩ := h
    exact ⟨rfl, rfl, lanternref02_minus.call a0_ hok⟩
  · cases h⟩
def lanternref02_Valid.k (M : Prims) (c67 : Nat) (c68 : Nat → Bool) (c68ok : Nat → Bool) (a : LSpan) (k : Bool → R) : R :=
  cond (M.le a.lo a.hi)
    (cond (M.ne a.lo c67)
       (cond (M.ne a.hi (M.neg c67))
          (cond (c68ok a.lo)
             (cond (!(c68 a.lo))
                (cond (c68ok a.hi)
                   (k (!(c68 a.hi)))
                   (none))
                (k false))
             (none))
          (k false))
       (k false))
    (k false)
def lanternref02_Valid (M : Prims) (a : LSpan) : Bool :=
  cond (M.le a.lo a.hi)
    (cond (M.ne a.lo (lanternref01_Inf M))
       (cond (M.ne a.hi (M.neg (lanternref01_Inf M)))
          (cond (!(lanternref02_minus M a.lo))
             ((!(lanternref02_minus M a.hi)))
             (false))
          (false))
       (false))
    (false)
def lanternref02_Valid.ok (M : Prims) (a : LSpan) : Bool :=
  cond (M.le a.lo a.hi)
    (cond (M.ne a.lo (lanternref01_Inf M))
       (cond (M.ne a.hi (M.neg (lanternref01_Inf M)))
          (cond (lanternref02_minus.ok M a.lo)
             (cond (!(lanternref02_minus M a.lo))
                (cond (lanternref02_minus.ok M a.hi)
                   (true)
                   (false))
                (true))
             (false))
          (true))
       (true))
    (true)
def lanternref02_Valid.fns (c67 : Nat) (c68 : Nat → Bool) (c68ok : Nat → Bool) : FuncId → List Value → Option (Bool × Value) := ifId 67 (lanternref01_Inf.ph c67) <| ifId 68 (lanternref02_minus.ph c68 c68ok) <| noFns
theorem lanternref02_Valid.fnsOK : PureFns Try.prog (lanternref02_Valid.fns (lanternref01_Inf M0) (lanternref02_minus M0) (lanternref02_minus.ok M0)) := ifIdOK lanternref01_Inf.phOK <| ifIdOK lanternref02_minus.phOK <| noFnsOK
theorem lanternref02_Valid.ev (M : Prims) (c67 : Nat) (c68 : Nat → Bool) (c68ok : Nat → Bool)  (a : LSpan) : evP tab M (lanternref02_Valid.fns c67 c68 c68ok) noLoops 300 Try.f31 [a.val] = lanternref02_Valid.k M c67 c68 c68ok  a (fun r => some ((.bool r), [])) := by kernel_rfl
theorem lanternref02_Valid.k_eq (M : Prims) (a : LSpan) (k : Bool → R) : lanternref02_Valid.ok M a = true → lanternref02_Valid.k M (lanternref01_Inf M) (lanternref02_minus M) (lanternref02_minus.ok M) a k = k (lanternref02_Valid M a) := by
  unfold lanternref02_Valid.ok lanternref02_Valid.k lanternref02_Valid
  exact kC (kC (kC (kL (kC (kL (fun _ => rfl)) (fun _ => rfl))) (fun _ => rfl)) (fun _ => rfl)) (fun _ => rfl)
theorem lanternref02_Valid.call (a : LSpan) (h : lanternref02_Valid.ok M0 a = true) : PureOK Try.prog 31 [a.val] (.bool (lanternref02_Valid M0 a)) :=
  evP_sound (P := Try.prog) mixed tabOK lanternref02_Valid.fnsOK Try.func31 rfl (Λ := noLoops) (c := Try.f31.body.getD .skip) rfl (noLoopsOK _) rfl (Nat.zero_le 1) rfl rfl ((lanternref02_Valid.ev M0 (lanternref01_Inf M0) (lanternref02_minus M0) (lanternref02_minus.ok M0) a).trans (lanternref02_Valid.k_eq M0 a _ h))
def lanternref02_Valid.ph (c31 : LSpan → Bool) (c31ok : LSpan → Bool) : Ph := fun args => match args with
  | [.agg ⟨[.float .f64 a0_0, .float .f64 a0_1]⟩] => some (c31ok (⟨a0_0, a0_1⟩ : LSpan), (.bool (c31 (⟨a0_0, a0_1⟩ : LSpan))))
  | _ => none
theorem lanternref02_Valid.phOK : PhOK Try.prog 31 (lanternref02_Valid.ph (lanternref02_Valid M0) (lanternref02_Valid.ok M0)) := ⟨by
  intro args v h
  unfold lanternref02_Valid.ph at h
  split at h
  · rename_i a0_0 a0_1
    simp only [Option.some.injEq, Prod.mk.injEq] at h
    obtain ⟨hok, rfl⟩ := h
    exact ⟨rfl, rfl, lanternref02_Valid.call (⟨a0_0, a0_1⟩ : LSpan) hok⟩
  · cases h⟩
def lanternref03_Valid.k (_ : Prims) (c31 : LSpan → Bool) (c31ok : LSpan → Bool) (a : LV3) (k : Bool → R) : R :=
  cond (c31ok a.p0)
    (cond (c31 a.p0)
       (cond (c31ok a.p1)
          (cond (c31 a.p1)
             (cond (c31ok a.p2)
                (k (c31 a.p2))
                (none))
             (k false))
          (none))
       (k false))
    (none)
def lanternref03_Valid (M : Prims) (a : LV3) : Bool :=
  cond (lanternref02_Valid M a.p0)
    (cond (lanternref02_Valid M a.p1)
       ((lanternref02_Valid M a.p2))
       (false))
    (false)
def lanternref03_Valid.ok (M : Prims) (a : LV3) : Bool :=
  cond (lanternref02_Valid.ok M a.p0)
    (cond (lanternref02_Valid M a.p0)
       (cond (lanternref02_Valid.ok M a.p1)
          (cond (lanternref02_Valid M a.p1)
             (cond (lanternref02_Valid.ok M a.p2)
                (true)
                (false))
             (true))
          (false))
       (true))
    (false)
def lanternref03_Valid.fns (c31 : LSpan → Bool) (c31ok : LSpan → Bool) : FuncId → List Value → Option (Bool × Value) := ifId 31 (lanternref02_Valid.ph c31 c31ok) <| noFns
theorem lanternref03_Valid.fnsOK : PureFns Try.prog (lanternref03_Valid.fns (lanternref02_Valid M0) (lanternref02_Valid.ok M0)) := ifIdOK lanternref02_Valid.phOK <| noFnsOK
theorem lanternref03_Valid.ev (M : Prims) (c31 : LSpan → Bool) (c31ok : LSpan → Bool)  (a : LV3) : evP tab M (lanternref03_Valid.fns c31 c31ok) noLoops 300 Try.f30 [a.val] = lanternref03_Valid.k M c31 c31ok  a (fun r => some ((.bool r), [])) := by kernel_rfl
theorem lanternref03_Valid.k_eq (M : Prims) (a : LV3) (k : Bool → R) : lanternref03_Valid.ok M a = true → lanternref03_Valid.k M (lanternref02_Valid M) (lanternref02_Valid.ok M) a k = k (lanternref03_Valid M a) := by
  unfold lanternref03_Valid.ok lanternref03_Valid.k lanternref03_Valid
  exact kL (kC (kL (kC (kL (fun _ => rfl)) (fun _ => rfl))) (fun _ => rfl))
theorem lanternref03_Valid.call (a : LV3) (h : lanternref03_Valid.ok M0 a = true) : PureOK Try.prog 30 [a.val] (.bool (lanternref03_Valid M0 a)) :=
  evP_sound (P := Try.prog) mixed tabOK lanternref03_Valid.fnsOK Try.func30 rfl (Λ := noLoops) (c := Try.f30.body.getD .skip) rfl (noLoopsOK _) rfl (Nat.zero_le 1) rfl rfl ((lanternref03_Valid.ev M0 (lanternref02_Valid M0) (lanternref02_Valid.ok M0) a).trans (lanternref03_Valid.k_eq M0 a _ h))
def lanternref03_Valid.ph (c30 : LV3 → Bool) (c30ok : LV3 → Bool) : Ph := fun args => match args with
  | [.agg ⟨[.float .f64 a0_0, .float .f64 a0_1, .float .f64 a0_2, .float .f64 a0_3, .float .f64 a0_4, .float .f64 a0_5]⟩] => some (c30ok (⟨⟨a0_0, a0_1⟩, ⟨a0_2, a0_3⟩, ⟨a0_4, a0_5⟩⟩ : LV3), (.bool (c30 (⟨⟨a0_0, a0_1⟩, ⟨a0_2, a0_3⟩, ⟨a0_4, a0_5⟩⟩ : LV3))))
  | _ => none
theorem lanternref03_Valid.phOK : PhOK Try.prog 30 (lanternref03_Valid.ph (lanternref03_Valid M0) (lanternref03_Valid.ok M0)) := ⟨by
  intro args v h
  unfold lanternref03_Valid.ph at h
  split at h
  · rename_i a0_0 a0_1 a0_2 a0_3 a0_4 a0_5
    simp only [Option.some.injEq, Prod.mk.injEq] at h
    obtain ⟨hok, rfl⟩ := h
    exact ⟨rfl, rfl, lanternref03_Valid.call (⟨⟨a0_0, a0_1⟩, ⟨a0_2, a0_3⟩, ⟨a0_4, a0_5⟩⟩ : LV3) hok⟩
  · cases h⟩
def lanternref10_Valid.k (_ : Prims) (c30 : LV3 → Bool) (c30ok : LV3 → Bool) (c31 : LSpan → Bool) (c31ok : LSpan → Bool) (s : LShape) (k : Bool → R) : R :=
  cond ((s.kind : Int) == 1)
    (cond (c30ok s.p.p0)
       (cond (c30 s.p.p0)
          (cond (c30ok s.p.p1)
             (cond (c30 s.p.p1)
                (cond (c30ok s.p.p2)
                   (cond (c30 s.p.p2)
                      (cond (c31ok s.r)
                         (k (c31 s.r))
                         (none))
                      (k false))
                   (none))
                (k false))
             (none))
          (k false))
       (none))
    (cond ((s.kind : Int) == 2)
       (cond (c30ok s.p.p0)
          (cond (c30 s.p.p0)
             (cond (c30ok s.p.p1)
                (cond (c30 s.p.p1)
                   (cond (c30ok s.p.p2)
                      (cond (c30 s.p.p2)
                         (cond (c31ok s.r)
                            (k (c31 s.r))
                            (none))
                         (k false))
                      (none))
                   (k false))
                (none))
             (k false))
          (none))
       (k false))
def lanternref10_Valid (M : Prims) (s : LShape) : Bool :=
  cond ((s.kind : Int) == 1)
    (cond (lanternref03_Valid M s.p.p0)
       (cond (lanternref03_Valid M s.p.p1)
          (cond (lanternref03_Valid M s.p.p2)
             ((lanternref02_Valid M s.r))
             (false))
          (false))
       (false))
    (cond ((s.kind : Int) == 2)
       (cond (lanternref03_Valid M s.p.p0)
          (cond (lanternref03_Valid M s.p.p1)
             (cond (lanternref03_Valid M s.p.p2)
                ((lanternref02_Valid M s.r))
                (false))
             (false))
          (false))
       (false))
def lanternref10_Valid.ok (M : Prims) (s : LShape) : Bool :=
  cond ((s.kind : Int) == 1)
    (cond (lanternref03_Valid.ok M s.p.p0)
       (cond (lanternref03_Valid M s.p.p0)
          (cond (lanternref03_Valid.ok M s.p.p1)
             (cond (lanternref03_Valid M s.p.p1)
                (cond (lanternref03_Valid.ok M s.p.p2)
                   (cond (lanternref03_Valid M s.p.p2)
                      (cond (lanternref02_Valid.ok M s.r)
                         (true)
                         (false))
                      (true))
                   (false))
                (true))
             (false))
          (true))
       (false))
    (cond ((s.kind : Int) == 2)
       (cond (lanternref03_Valid.ok M s.p.p0)
          (cond (lanternref03_Valid M s.p.p0)
             (cond (lanternref03_Valid.ok M s.p.p1)
                (cond (lanternref03_Valid M s.p.p1)
                   (cond (lanternref03_Valid.ok M s.p.p2)
                      (cond (lanternref03_Valid M s.p.p2)
                         (cond (lanternref02_Valid.ok M s.r)
                            (true)
                            (false))
                         (true))
                      (false))
                   (true))
                (false))
             (true))
          (false))
       (true))
def lanternref10_Valid.fns (c30 : LV3 → Bool) (c30ok : LV3 → Bool) (c31 : LSpan → Bool) (c31ok : LSpan → Bool) : FuncId → List Value → Option (Bool × Value) := ifId 30 (lanternref03_Valid.ph c30 c30ok) <| ifId 31 (lanternref02_Valid.ph c31 c31ok) <| noFns
theorem lanternref10_Valid.fnsOK : PureFns Try.prog (lanternref10_Valid.fns (lanternref03_Valid M0) (lanternref03_Valid.ok M0) (lanternref02_Valid M0) (lanternref02_Valid.ok M0)) := ifIdOK lanternref03_Valid.phOK <| ifIdOK lanternref02_Valid.phOK <| noFnsOK
theorem lanternref10_Valid.ev (M : Prims) (c30 : LV3 → Bool) (c30ok : LV3 → Bool) (c31 : LSpan → Bool) (c31ok : LSpan → Bool)  (s : LShape) : evP tab M (lanternref10_Valid.fns c30 c30ok c31 c31ok) noLoops 300 Try.f9 [s.val] = lanternref10_Valid.k M c30 c30ok c31 c31ok  s (fun r => some ((.bool r), [])) := by kernel_rfl
theorem lanternref10_Valid.k_eq (M : Prims) (s : LShape) (k : Bool → R) : lanternref10_Valid.ok M s = true → lanternref10_Valid.k M (lanternref03_Valid M) (lanternref03_Valid.ok M) (lanternref02_Valid M) (lanternref02_Valid.ok M) s k = k (lanternref10_Valid M s) := by
  unfold lanternref10_Valid.ok lanternref10_Valid.k lanternref10_Valid
  exact kC (kL (kC (kL (kC (kL (kC (kL (fun _ => rfl)) (fun _ => rfl))) (fun _ => rfl))) (fun _ => rfl))) (kC (kL (kC (kL (kC (kL (kC (kL (fun _ => rfl)) (fun _ => rfl))) (fun _ => rfl))) (fun _ => rfl))) (fun _ => rfl))
theorem lanternref10_Valid.call (s : LShape) (h : lanternref10_Valid.ok M0 s = true) : PureOK Try.prog 9 [s.val] (.bool (lanternref10_Valid M0 s)) :=
  evP_sound (P := Try.prog) mixed tabOK lanternref10_Valid.fnsOK Try.func9 rfl (Λ := noLoops) (c := Try.f9.body.getD .skip) rfl (noLoopsOK _) rfl (Nat.zero_le 1) rfl rfl ((lanternref10_Valid.ev M0 (lanternref03_Valid M0) (lanternref03_Valid.ok M0) (lanternref02_Valid M0) (lanternref02_Valid.ok M0) s).trans (lanternref10_Valid.k_eq M0 s _ h))
def lanternref10_Valid.ph (c9 : LShape → Bool) (c9ok : LShape → Bool) : Ph := fun args => match args with
  | [.agg ⟨[.int .i64 a0_0, .float .f64 a0_1, .float .f64 a0_2, .float .f64 a0_3, .float .f64 a0_4, .float .f64 a0_5, .float .f64 a0_6, .float .f64 a0_7, .float .f64 a0_8, .float .f64 a0_9, .float .f64 a0_10, .float .f64 a0_11, .float .f64 a0_12, .float .f64 a0_13, .float .f64 a0_14, .float .f64 a0_15, .float .f64 a0_16, .float .f64 a0_17, .float .f64 a0_18, .float .f64 a0_19, .float .f64 a0_20]⟩] => some (c9ok (⟨a0_0, ⟨⟨⟨a0_1, a0_2⟩, ⟨a0_3, a0_4⟩, ⟨a0_5, a0_6⟩⟩, ⟨⟨a0_7, a0_8⟩, ⟨a0_9, a0_10⟩, ⟨a0_11, a0_12⟩⟩, ⟨⟨a0_13, a0_14⟩, ⟨a0_15, a0_16⟩, ⟨a0_17, a0_18⟩⟩⟩, ⟨a0_19, a0_20⟩⟩ : LShape), (.bool (c9 (⟨a0_0, ⟨⟨⟨a0_1, a0_2⟩, ⟨a0_3, a0_4⟩, ⟨a0_5, a0_6⟩⟩, ⟨⟨a0_7, a0_8⟩, ⟨a0_9, a0_10⟩, ⟨a0_11, a0_12⟩⟩, ⟨⟨a0_13, a0_14⟩, ⟨a0_15, a0_16⟩, ⟨a0_17, a0_18⟩⟩⟩, ⟨a0_19, a0_20⟩⟩ : LShape))))
  | _ => none
theorem lanternref10_Valid.phOK : PhOK Try.prog 9 (lanternref10_Valid.ph (lanternref10_Valid M0) (lanternref10_Valid.ok M0)) := ⟨by
  intro args v h
  unfold lanternref10_Valid.ph at h
  split at h
  · rename_i a0_0 a0_1 a0_2 a0_3 a0_4 a0_5 a0_6 a0_7 a0_8 a0_9 a0_10 a0_11 a0_12 a0_13 a0_14 a0_15 a0_16 a0_17 a0_18 a0_19 a0_20
    simp only [Option.some.injEq, Prod.mk.injEq] at h
    obtain ⟨hok, rfl⟩ := h
    exact ⟨rfl, rfl, lanternref10_Valid.call (⟨a0_0, ⟨⟨⟨a0_1, a0_2⟩, ⟨a0_3, a0_4⟩, ⟨a0_5, a0_6⟩⟩, ⟨⟨a0_7, a0_8⟩, ⟨a0_9, a0_10⟩, ⟨a0_11, a0_12⟩⟩, ⟨⟨a0_13, a0_14⟩, ⟨a0_15, a0_16⟩, ⟨a0_17, a0_18⟩⟩⟩, ⟨a0_19, a0_20⟩⟩ : LShape) hok⟩
  · cases h⟩
def lanternref10_ValidRay.k (_ : Prims) (c30 : LV3 → Bool) (c30ok : LV3 → Bool) (r : LRay) (k : Bool → R) : R :=
  cond (c30ok r.o)
    (cond (c30 r.o)
       (cond (c30ok r.d)
          (k (c30 r.d))
          (none))
       (k false))
    (none)
def lanternref10_ValidRay (M : Prims) (r : LRay) : Bool :=
  cond (lanternref03_Valid M r.o)
    ((lanternref03_Valid M r.d))
    (false)
def lanternref10_ValidRay.ok (M : Prims) (r : LRay) : Bool :=
  cond (lanternref03_Valid.ok M r.o)
    (cond (lanternref03_Valid M r.o)
       (cond (lanternref03_Valid.ok M r.d)
          (true)
          (false))
       (true))
    (false)
def lanternref10_ValidRay.fns (c30 : LV3 → Bool) (c30ok : LV3 → Bool) : FuncId → List Value → Option (Bool × Value) := ifId 30 (lanternref03_Valid.ph c30 c30ok) <| noFns
theorem lanternref10_ValidRay.fnsOK : PureFns Try.prog (lanternref10_ValidRay.fns (lanternref03_Valid M0) (lanternref03_Valid.ok M0)) := ifIdOK lanternref03_Valid.phOK <| noFnsOK
theorem lanternref10_ValidRay.ev (M : Prims) (c30 : LV3 → Bool) (c30ok : LV3 → Bool)  (r : LRay) : evP tab M (lanternref10_ValidRay.fns c30 c30ok) noLoops 300 Try.f10 [r.val] = lanternref10_ValidRay.k M c30 c30ok  r (fun r => some ((.bool r), [])) := by kernel_rfl
theorem lanternref10_ValidRay.k_eq (M : Prims) (r : LRay) (k : Bool → R) : lanternref10_ValidRay.ok M r = true → lanternref10_ValidRay.k M (lanternref03_Valid M) (lanternref03_Valid.ok M) r k = k (lanternref10_ValidRay M r) := by
  unfold lanternref10_ValidRay.ok lanternref10_ValidRay.k lanternref10_ValidRay
  exact kL (kC (kL (fun _ => rfl)) (fun _ => rfl))
theorem lanternref10_ValidRay.call (r : LRay) (h : lanternref10_ValidRay.ok M0 r = true) : PureOK Try.prog 10 [r.val] (.bool (lanternref10_ValidRay M0 r)) :=
  evP_sound (P := Try.prog) mixed tabOK lanternref10_ValidRay.fnsOK Try.func10 rfl (Λ := noLoops) (c := Try.f10.body.getD .skip) rfl (noLoopsOK _) rfl (Nat.zero_le 1) rfl rfl ((lanternref10_ValidRay.ev M0 (lanternref03_Valid M0) (lanternref03_Valid.ok M0) r).trans (lanternref10_ValidRay.k_eq M0 r _ h))
def lanternref10_ValidRay.ph (c10 : LRay → Bool) (c10ok : LRay → Bool) : Ph := fun args => match args with
  | [.agg ⟨[.float .f64 a0_0, .float .f64 a0_1, .float .f64 a0_2, .float .f64 a0_3, .float .f64 a0_4, .float .f64 a0_5, .float .f64 a0_6, .float .f64 a0_7, .float .f64 a0_8, .float .f64 a0_9, .float .f64 a0_10, .float .f64 a0_11]⟩] => some (c10ok (⟨⟨⟨a0_0, a0_1⟩, ⟨a0_2, a0_3⟩, ⟨a0_4, a0_5⟩⟩, ⟨⟨a0_6, a0_7⟩, ⟨a0_8, a0_9⟩, ⟨a0_10, a0_11⟩⟩⟩ : LRay), (.bool (c10 (⟨⟨⟨a0_0, a0_1⟩, ⟨a0_2, a0_3⟩, ⟨a0_4, a0_5⟩⟩, ⟨⟨a0_6, a0_7⟩, ⟨a0_8, a0_9⟩, ⟨a0_10, a0_11⟩⟩⟩ : LRay))))
  | _ => none
theorem lanternref10_ValidRay.phOK : PhOK Try.prog 10 (lanternref10_ValidRay.ph (lanternref10_ValidRay M0) (lanternref10_ValidRay.ok M0)) := ⟨by
  intro args v h
  unfold lanternref10_ValidRay.ph at h
  split at h
  · rename_i a0_0 a0_1 a0_2 a0_3 a0_4 a0_5 a0_6 a0_7 a0_8 a0_9 a0_10 a0_11
    simp only [Option.some.injEq, Prod.mk.injEq] at h
    obtain ⟨hok, rfl⟩ := h
    exact ⟨rfl, rfl, lanternref10_ValidRay.call (⟨⟨⟨a0_0, a0_1⟩, ⟨a0_2, a0_3⟩, ⟨a0_4, a0_5⟩⟩, ⟨⟨a0_6, a0_7⟩, ⟨a0_8, a0_9⟩, ⟨a0_10, a0_11⟩⟩⟩ : LRay) hok⟩
  · cases h⟩
def lanternref02_Wide.k (_ : Prims) (c88 : Nat → Bool) (a : LSpan) (k : Bool → R) : R :=
  cond (!(c88 a.lo))
    (k true)
    (k (!(c88 a.hi)))
def lanternref02_Wide (M : Prims) (a : LSpan) : Bool :=
  cond (!(lanternref01_Number M a.lo))
    (true)
    ((!(lanternref01_Number M a.hi)))
def lanternref02_Wide.fns (c88 : Nat → Bool) : FuncId → List Value → Option (Bool × Value) := ifId 88 (lanternref01_Number.ph c88) <| noFns
theorem lanternref02_Wide.fnsOK : PureFns Try.prog (lanternref02_Wide.fns (lanternref01_Number M0)) := ifIdOK lanternref01_Number.phOK <| noFnsOK
theorem lanternref02_Wide.ev (M : Prims) (c88 : Nat → Bool)  (a : LSpan) : evP tab M (lanternref02_Wide.fns c88) noLoops 300 Try.f69 [a.val] = lanternref02_Wide.k M c88  a (fun r => some ((.bool r), [])) := by kernel_rfl
theorem lanternref02_Wide.k_eq (M : Prims) (a : LSpan) (k : Bool → R) : lanternref02_Wide.k M (lanternref01_Number M) a k = k (lanternref02_Wide M a) := by
  unfold lanternref02_Wide.k lanternref02_Wide
  exact pC rfl rfl
theorem lanternref02_Wide.call (a : LSpan) : PureOK Try.prog 69 [a.val] (.bool (lanternref02_Wide M0 a)) :=
  evP_sound (P := Try.prog) mixed tabOK lanternref02_Wide.fnsOK Try.func69 rfl (Λ := noLoops) (c := Try.f69.body.getD .skip) rfl (noLoopsOK _) rfl (Nat.zero_le 1) rfl rfl ((lanternref02_Wide.ev M0 (lanternref01_Number M0) a).trans (lanternref02_Wide.k_eq M0 a _))
def lanternref02_Wide.ph (c69 : LSpan → Bool) : Ph := fun args => match args with
  | [.agg ⟨[.float .f64 a0_0, .float .f64 a0_1]⟩] => some (true, (.bool (c69 (⟨a0_0, a0_1⟩ : LSpan))))
  | _ => none
theorem lanternref02_Wide.phOK : PhOK Try.prog 69 (lanternref02_Wide.ph (lanternref02_Wide M0)) := ⟨by
  intro args v h
  unfold lanternref02_Wide.ph at h
  split at h
  · rename_i a0_0 a0_1
    simp only [Option.some.injEq, Prod.mk.injEq, true_and] at h
    subst h
    exact ⟨rfl, rfl, lanternref02_Wide.call (⟨a0_0, a0_1⟩ : LSpan)⟩
  · cases h⟩
def lanternref02_Least.k (M : Prims) (x : Nat) (y : Nat) (k : Nat → R) : R :=
  cond (M.lt x y)
    (k x)
    (k y)
def lanternref02_Least (M : Prims) (x : Nat) (y : Nat) : Nat :=
  cond (M.lt x y)
    (x)
    (y)
def lanternref02_Least.fns : FuncId → List Value → Option (Bool × Value) := noFns
theorem lanternref02_Least.fnsOK : PureFns Try.prog lanternref02_Least.fns := noFnsOK
theorem lanternref02_Least.ev (M : Prims)   (x : Nat) (y : Nat) : evP tab M lanternref02_Least.fns noLoops 300 Try.f33 [(.float .f64 x), (.float .f64 y)] = lanternref02_Least.k M   x y (fun r => some ((.float .f64 r), [])) := by kernel_rfl
theorem lanternref02_Least.k_eq (M : Prims) (x : Nat) (y : Nat) (k : Nat → R) : lanternref02_Least.k M  x y k = k (lanternref02_Least M x y) := by
  unfold lanternref02_Least.k lanternref02_Least
  exact pC rfl rfl
theorem lanternref02_Least.call (x : Nat) (y : Nat) : PureOK Try.prog 33 [(.float .f64 x), (.float .f64 y)] (.float .f64 (lanternref02_Least M0 x y)) :=
  evP_sound (P := Try.prog) mixed tabOK lanternref02_Least.fnsOK Try.func33 rfl (Λ := noLoops) (c := Try.f33.body.getD .skip) rfl (noLoopsOK _) rfl (Nat.zero_le 1) rfl rfl ((lanternref02_Least.ev M0  x y).trans (lanternref02_Least.k_eq M0 x y _))
def lanternref02_Least.ph (c33 : Nat → Nat → Nat) : Ph := fun args => match args with
  | [.float .f64 a0_, .float .f64 a1_] => some (true, (.float .f64 (c33 a0_ a1_)))
  | _ => none
theorem lanternref02_Least.phOK : PhOK Try.prog 33 (lanternref02_Least.ph (lanternref02_Least M0)) := ⟨by
  intro args v h
  unfold lanternref02_Least.ph at h
  split at h
  · rename_i a0_ a1_
    simp only [Option.some.injEq, Prod.mk.injEq, true_and] at h
    subst h
    exact ⟨rfl, rfl, lanternref02_Least.call a0_ a1_⟩
  · cases h⟩
def lanternref02_Greatest.k (M : Prims) (x : Nat) (y : Nat) (k : Nat → R) : R :=
  cond (M.gt x y)
    (k x)
    (k y)
def lanternref02_Greatest (M : Prims) (x : Nat) (y : Nat) : Nat :=
  cond (M.gt x y)
    (x)
    (y)
def lanternref02_Greatest.fns : FuncId → List Value → Option (Bool × Value) := noFns
theorem lanternref02_Greatest.fnsOK : PureFns Try.prog lanternref02_Greatest.fns := noFnsOK
theorem lanternref02_Greatest.ev (M : Prims)   (x : Nat) (y : Nat) : evP tab M lanternref02_Greatest.fns noLoops 300 Try.f34 [(.float .f64 x), (.float .f64 y)] = lanternref02_Greatest.k M   x y (fun r => some ((.float .f64 r), [])) := by kernel_rfl
theorem lanternref02_Greatest.k_eq (M : Prims) (x : Nat) (y : Nat) (k : Nat → R) : lanternref02_Greatest.k M  x y k = k (lanternref02_Greatest M x y) := by
  unfold lanternref02_Greatest.k lanternref02_Greatest
  exact pC rfl rfl
theorem lanternref02_Greatest.call (x : Nat) (y : Nat) : PureOK Try.prog 34 [(.float .f64 x), (.float .f64 y)] (.float .f64 (lanternref02_Greatest M0 x y)) :=
  evP_sound (P := Try.prog) mixed tabOK lanternref02_Greatest.fnsOK Try.func34 rfl (Λ := noLoops) (c := Try.f34.body.getD .skip) rfl (noLoopsOK _) rfl (Nat.zero_le 1) rfl rfl ((lanternref02_Greatest.ev M0  x y).trans (lanternref02_Greatest.k_eq M0 x y _))
def lanternref02_Greatest.ph (c34 : Nat → Nat → Nat) : Ph := fun args => match args with
  | [.float .f64 a0_, .float .f64 a1_] => some (true, (.float .f64 (c34 a0_ a1_)))
  | _ => none
theorem lanternref02_Greatest.phOK : PhOK Try.prog 34 (lanternref02_Greatest.ph (lanternref02_Greatest M0)) := ⟨by
  intro args v h
  unfold lanternref02_Greatest.ph at h
  split at h
  · rename_i a0_ a1_
    simp only [Option.some.injEq, Prod.mk.injEq, true_and] at h
    subst h
    exact ⟨rfl, rfl, lanternref02_Greatest.call a0_ a1_⟩
  · cases h⟩
def lanternlaw02_inner.k (M : Prims) (c33 : Nat → Nat → Nat) (c34 : Nat → Nat → Nat) (c69 : LSpan → Bool) (a : LSpan) (share : Nat) (k : Nat → R) : R :=
  cond (c69 a)
    (k (c34 (c33 4607182418800017408 a.hi) a.lo))
    (cond (M.ge share 0)
       (cond (!(M.le share 4607182418800017408))
          (k (c34 (c33 4607182418800017408 a.hi) a.lo))
          (k (c33 (c34 (M.add a.lo (M.mul (M.sub a.hi a.lo) share)) a.lo) a.hi)))
       (k (c34 (c33 4607182418800017408 a.hi) a.lo)))
def lanternlaw02_inner (M : Prims) (a : LSpan) (share : Nat) : Nat :=
  cond (lanternref02_Wide M a)
    ((lanternref02_Greatest M (lanternref02_Least M 4607182418800017408 a.hi) a.lo))
    (cond (M.ge share 0)
       (cond (!(M.le share 4607182418800017408))
          ((lanternref02_Greatest M (lanternref02_Least M 4607182418800017408 a.hi) a.lo))
          ((lanternref02_Least M (lanternref02_Greatest M (M.add a.lo (M.mul (M.sub a.hi a.lo) share)) a.lo) a.hi)))
       ((lanternref02_Greatest M (lanternref02_Least M 4607182418800017408 a.hi) a.lo)))
def lanternlaw02_inner.fns (c33 : Nat → Nat → Nat) (c34 : Nat → Nat → Nat) (c69 : LSpan → Bool) : FuncId → List Value → Option (Bool × Value) := ifId 33 (lanternref02_Least.ph c33) <| ifId 34 (lanternref02_Greatest.ph c34) <| ifId 69 (lanternref02_Wide.ph c69) <| noFns
theorem lanternlaw02_inner.fnsOK : PureFns Try.prog (lanternlaw02_inner.fns (lanternref02_Least M0) (lanternref02_Greatest M0) (lanternref02_Wide M0)) := ifIdOK lanternref02_Least.phOK <| ifIdOK lanternref02_Greatest.phOK <| ifIdOK lanternref02_Wide.phOK <| noFnsOK
theorem lanternlaw02_inner.ev (M : Prims) (c33 : Nat → Nat → Nat) (c34 : Nat → Nat → Nat) (c69 : LSpan → Bool)  (a : LSpan) (share : Nat) : evP tab M (lanternlaw02_inner.fns c33 c34 c69) noLoops 300 Try.f32 [a.val, (.float .f64 share)] = lanternlaw02_inner.k M c33 c34 c69  a share (fun r => some ((.float .f64 r), [])) := by kernel_rfl
theorem lanternlaw02_inner.k_eq (M : Prims) (a : LSpan) (share : Nat) (k : Nat → R) : lanternlaw02_inner.k M (lanternref02_Least M) (lanternref02_Greatest M) (lanternref02_Wide M) a share k = k (lanternlaw02_inner M a share) := by
  unfold lanternlaw02_inner.k lanternlaw02_inner
  exact pC rfl (pC (pC rfl rfl) rfl)
theorem lanternlaw02_inner.call (a : LSpan) (share : Nat) : PureOK Try.prog 32 [a.val, (.float .f64 share)] (.float .f64 (lanternlaw02_inner M0 a share)) :=
  evP_sound (P := Try.prog) mixed tabOK lanternlaw02_inner.fnsOK Try.func32 rfl (Λ := noLoops) (c := Try.f32.body.getD .skip) rfl (noLoopsOK _) rfl (Nat.zero_le 1) rfl rfl ((lanternlaw02_inner.ev M0 (lanternref02_Least M0) (lanternref02_Greatest M0) (lanternref02_Wide M0) a share).trans (lanternlaw02_inner.k_eq M0 a share _))
def lanternlaw02_inner.ph (c32 : LSpan → Nat → Nat) : Ph := fun args => match args with
  | [.agg ⟨[.float .f64 a0_0, .float .f64 a0_1]⟩, .float .f64 a1_] => some (true, (.float .f64 (c32 (⟨a0_0, a0_1⟩ : LSpan) a1_)))
  | _ => none
theorem lanternlaw02_inner.phOK : PhOK Try.prog 32 (lanternlaw02_inner.ph (lanternlaw02_inner M0)) := ⟨by
  intro args v h
  unfold lanternlaw02_inner.ph at h
  split at h
  · rename_i a0_0 a0_1 a1_
    simp only [Option.some.injEq, Prod.mk.injEq, true_and] at h
    subst h
    exact ⟨rfl, rfl, lanternlaw02_inner.call (⟨a0_0, a0_1⟩ : LSpan) a1_⟩
  · cases h⟩
def lanternlaw02_Inner.k (M : Prims) (c32 : LSpan → Nat → Nat) (c33 : Nat → Nat → Nat) (c34 : Nat → Nat → Nat) (a : LSpan) (s : Nat) (t : Nat) (k : LSpan → R) : R :=
  let x1 := c32 a s
  let x2 := c32 a t
  k (⟨(M.add (c33 x1 x2) 0), (M.add (c34 x1 x2) 0)⟩ : LSpan)
def lanternlaw02_Inner (M : Prims) (a : LSpan) (s : Nat) (t : Nat) : LSpan :=
  let x1 := lanternlaw02_inner M a s
  let x2 := lanternlaw02_inner M a t
  (⟨(M.add (lanternref02_Least M x1 x2) 0), (M.add (lanternref02_Greatest M x1 x2) 0)⟩ : LSpan)
def lanternlaw02_Inner.fns (c32 : LSpan → Nat → Nat) (c33 : Nat → Nat → Nat) (c34 : Nat → Nat → Nat) : FuncId → List Value → Option (Bool × Value) := ifId 32 (lanternlaw02_inner.ph c32) <| ifId 33 (lanternref02_Least.ph c33) <| ifId 34 (lanternref02_Greatest.ph c34) <| noFns
theorem lanternlaw02_Inner.fnsOK : PureFns Try.prog (lanternlaw02_Inner.fns (lanternlaw02_inner M0) (lanternref02_Least M0) (lanternref02_Greatest M0)) := ifIdOK lanternlaw02_inner.phOK <| ifIdOK lanternref02_Least.phOK <| ifIdOK lanternref02_Greatest.phOK <| noFnsOK
theorem lanternlaw02_Inner.ev (M : Prims) (c32 : LSpan → Nat → Nat) (c33 : Nat → Nat → Nat) (c34 : Nat → Nat → Nat)  (a : LSpan) (s : Nat) (t : Nat) : evP tab M (lanternlaw02_Inner.fns c32 c33 c34) noLoops 300 Try.f12 [a.val, (.float .f64 s), (.float .f64 t)] = lanternlaw02_Inner.k M c32 c33 c34  a s t (fun r => some (r.val, [])) := by kernel_rfl
theorem lanternlaw02_Inner.k_eq (M : Prims) (a : LSpan) (s : Nat) (t : Nat) (k : LSpan → R) : lanternlaw02_Inner.k M (lanternlaw02_inner M) (lanternref02_Least M) (lanternref02_Greatest M) a s t k = k (lanternlaw02_Inner M a s t) := by
  unfold lanternlaw02_Inner.k lanternlaw02_Inner
  exact rfl
theorem lanternlaw02_Inner.call (a : LSpan) (s : Nat) (t : Nat) : PureOK Try.prog 12 [a.val, (.float .f64 s), (.float .f64 t)] ((lanternlaw02_Inner M0 a s t).val) :=
  evP_sound (P := Try.prog) mixed tabOK lanternlaw02_Inner.fnsOK Try.func12 rfl (Λ := noLoops) (c := Try.f12.body.getD .skip) rfl (noLoopsOK _) rfl (Nat.zero_le 1) rfl rfl ((lanternlaw02_Inner.ev M0 (lanternlaw02_inner M0) (lanternref02_Least M0) (lanternref02_Greatest M0) a s t).trans (lanternlaw02_Inner.k_eq M0 a s t _))
def lanternlaw02_Inner.ph (c12 : LSpan → Nat → Nat → LSpan) : Ph := fun args => match args with
  | [.agg ⟨[.float .f64 a0_0, .float .f64 a0_1]⟩, .float .f64 a1_, .float .f64 a2_] => some (true, (c12 (⟨a0_0, a0_1⟩ : LSpan) a1_ a2_).val)
  | _ => none
theorem lanternlaw02_Inner.phOK : PhOK Try.prog 12 (lanternlaw02_Inner.ph (lanternlaw02_Inner M0)) := ⟨by
  intro args v h
  unfold lanternlaw02_Inner.ph at h
  split at h
  · rename_i a0_0 a0_1 a1_ a2_
    simp only [Option.some.injEq, Prod.mk.injEq, true_and] at h
    subst h
    exact ⟨rfl, rfl, lanternlaw02_Inner.call (⟨a0_0, a0_1⟩ : LSpan) a1_ a2_⟩
  · cases h⟩
def lanternlaw03_Inner3.k (_ : Prims) (c12 : LSpan → Nat → Nat → LSpan) (a : LV3) (s : LA6F) (k : LV3 → R) : R :=
  k (⟨(c12 a.p0 s.p0 s.p1), (c12 a.p1 s.p2 s.p3), (c12 a.p2 s.p4 s.p5)⟩ : LV3)
def lanternlaw03_Inner3 (M : Prims) (a : LV3) (s : LA6F) : LV3 :=
  (⟨(lanternlaw02_Inner M a.p0 s.p0 s.p1), (lanternlaw02_Inner M a.p1 s.p2 s.p3), (lanternlaw02_Inner M a.p2 s.p4 s.p5)⟩ : LV3)
def lanternlaw03_Inner3.fns (c12 : LSpan → Nat → Nat → LSpan) : FuncId → List Value → Option (Bool × Value) := ifId 12 (lanternlaw02_Inner.ph c12) <| noFns
theorem lanternlaw03_Inner3.fnsOK : PureFns Try.prog (lanternlaw03_Inner3.fns (lanternlaw02_Inner M0)) := ifIdOK lanternlaw02_Inner.phOK <| noFnsOK
theorem lanternlaw03_Inner3.ev (M : Prims) (c12 : LSpan → Nat → Nat → LSpan)  (a : LV3) (s : LA6F) : evP tab M (lanternlaw03_Inner3.fns c12) noLoops 300 Try.f11 [a.val, s.val] = lanternlaw03_Inner3.k M c12  a s (fun r => some (r.val, [])) := by kernel_rfl
theorem lanternlaw03_Inner3.k_eq (M : Prims) (a : LV3) (s : LA6F) (k : LV3 → R) : lanternlaw03_Inner3.k M (lanternlaw02_Inner M) a s k = k (lanternlaw03_Inner3 M a s) := by
  unfold lanternlaw03_Inner3.k lanternlaw03_Inner3
  exact rfl
theorem lanternlaw03_Inner3.call (a : LV3) (s : LA6F) : PureOK Try.prog 11 [a.val, s.val] ((lanternlaw03_Inner3 M0 a s).val) :=
  evP_sound (P := Try.prog) mixed tabOK lanternlaw03_Inner3.fnsOK Try.func11 rfl (Λ := noLoops) (c := Try.f11.body.getD .skip) rfl (noLoopsOK _) rfl (Nat.zero_le 1) rfl rfl ((lanternlaw03_Inner3.ev M0 (lanternlaw02_Inner M0) a s).trans (lanternlaw03_Inner3.k_eq M0 a s _))
def lanternlaw03_Inner3.ph (c11 : LV3 → LA6F → LV3) : Ph := fun args => match args with
  | [.agg ⟨[.float .f64 a0_0, .float .f64 a0_1, .float .f64 a0_2, .float .f64 a0_3, .float .f64 a0_4, .float .f64 a0_5]⟩, .agg ⟨[.float .f64 a1_0, .float .f64 a1_1, .float .f64 a1_2, .float .f64 a1_3, .float .f64 a1_4, .float .f64 a1_5]⟩] => some (true, (c11 (⟨⟨a0_0, a0_1⟩, ⟨a0_2, a0_3⟩, ⟨a0_4, a0_5⟩⟩ : LV3) (⟨a1_0, a1_1, a1_2, a1_3, a1_4, a1_5⟩ : LA6F)).val)
  | _ => none
theorem lanternlaw03_Inner3.phOK : PhOK Try.prog 11 (lanternlaw03_Inner3.ph (lanternlaw03_Inner3 M0)) := ⟨by
  intro args v h
  unfold lanternlaw03_Inner3.ph at h
  split at h
  · rename_i a0_0 a0_1 a0_2 a0_3 a0_4 a0_5 a1_0 a1_1 a1_2 a1_3 a1_4 a1_5
    simp only [Option.some.injEq, Prod.mk.injEq, true_and] at h
    subst h
    exact ⟨rfl, rfl, lanternlaw03_Inner3.call (⟨⟨a0_0, a0_1⟩, ⟨a0_2, a0_3⟩, ⟨a0_4, a0_5⟩⟩ : LV3) (⟨a1_0, a1_1, a1_2, a1_3, a1_4, a1_5⟩ : LA6F)⟩
  · cases h⟩
end Go.Lan
