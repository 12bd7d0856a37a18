import Derived.Test.YtpgjihkaocahbaaLb4
namespace Go.Lan
open Go.Proofs
def shape_triangle.k (_ : Prims) (c72_4 : Int → Int → Int → Int → Int) (c38 : LSpan → Int) (c39 : LSpan → LSpan → LSpan) (c39ok : LSpan → LSpan → Bool) (c40 : LSpan → LSpan → LSpan) (c40ok : LSpan → LSpan → Bool) (c41 : Nat → LSpan) (c41ok : Nat → Bool) (c45 : LSpan → LSpan → LSpan) (c45ok : LSpan → LSpan → Bool) (c46 : LSpan → LSpan → LSpan) (c46ok : LSpan → LSpan → Bool) (c48 : LShape → LV3 × LV3) (c48ok : LShape → Bool) (c54 : LV3 → LV3 → LV3) (c54ok : LV3 → LV3 → Bool) (c61 : LV3 → LV3 → LSpan) (c61ok : LV3 → LV3 → Bool) (c70 : LV3 → LV3 → LV3) (c70ok : LV3 → LV3 → Bool) (c71 : LSpan → Nat × Int) (c73 : LSpan → Int) (s : LShape) (r : LRay) (k : LHit → R) : R :=
  let x1 := c48 s
  cond (c48ok s)
    (let x2 := c70 r.d x1.2
     cond (c70ok r.d x1.2)
       (let x3 := c61 x1.1 x2
        cond (c61ok x1.1 x2)
          (let x4 := c71 x3
           cond ((x4.2 : Int) != 1)
             (k (⟨x4.2, (⟨0, 0⟩ : LSpan), (⟨0, 0⟩ : LSpan), (⟨0, 0⟩ : LSpan)⟩ : LHit))
             (let x6 := c54 r.o s.p.p0
              cond (c54ok r.o s.p.p0)
                (let x7 := c70 x6 x1.1
                 cond (c70ok x6 x1.1)
                   (let x8 := c41 x4.1
                    cond (c41ok x4.1)
                      (let x9 := c40 x3 x8
                       cond (c40ok x3 x8)
                         (let x10 := c61 x6 x2
                          cond (c61ok x6 x2)
                            (let x11 := c40 x10 x8
                             cond (c40ok x10 x8)
                               (let x12 := c61 r.d x7
                                cond (c61ok r.d x7)
                                  (let x13 := c40 x12 x8
                                   cond (c40ok x12 x8)
                                     (let x14 := c61 x1.2 x7
                                      cond (c61ok x1.2 x7)
                                        (let x15 := c40 x14 x8
                                         cond (c40ok x14 x8)
                                           (let x18 := c46 x11 x13
                                            cond (c46ok x11 x13)
                                              (cond (c45ok x9 x18)
                                                 (let x22 := c72_4 (c73 x11) (c73 x13) (c73 (c45 x9 x18)) (c38 x15)
                                                  cond ((x22 : Int) != 1)
                                                    (k (⟨x22, (⟨0, 0⟩ : LSpan), (⟨0, 0⟩ : LSpan), (⟨0, 0⟩ : LSpan)⟩ : LHit))
                                                    (cond (c39ok x15 x9)
                                                       (cond (c39ok x11 x9)
                                                          (cond (c39ok x13 x9)
                                                             (k (⟨1, (c39 x15 x9), (c39 x11 x9), (c39 x13 x9)⟩ : LHit))
                                                             (none))
                                                          (none))
                                                       (none)))
                                                 (none))
                                              (none))
                                           (none))
                                        (none))
                                     (none))
                                  (none))
                               (none))
                            (none))
                         (none))
                      (none))
                   (none))
                (none)))
          (none))
       (none))
    (none)
def shape_triangle (M : Prims) (s : LShape) (r : LRay) : LHit :=
  let x1 := shape_edges M s
  let x2 := vec_Cross M r.d x1.2
  let x3 := vec_Dot M x1.1 x2
  let x4 := shape_side M x3
  cond ((x4.2 : Int) != 1)
    ((⟨x4.2, (⟨0, 0⟩ : LSpan), (⟨0, 0⟩ : LSpan), (⟨0, 0⟩ : LSpan)⟩ : LHit))
    (let x6 := vec_Sub M r.o s.p.p0
     let x7 := vec_Cross M x6 x1.1
     let x8 := span_Of M x4.1
     let x9 := span_Mul M x3 x8
     let x11 := span_Mul M (vec_Dot M x6 x2) x8
     let x13 := span_Mul M (vec_Dot M r.d x7) x8
     let x15 := span_Mul M (vec_Dot M x1.2 x7) x8
     let x22 := shape_all_s4 M (shape_atLeast M x11) (shape_atLeast M x13) (shape_atLeast M (span_Sub M x9 (span_Add M x11 x13))) (span_Positive M x15)
     cond ((x22 : Int) != 1)
       ((⟨x22, (⟨0, 0⟩ : LSpan), (⟨0, 0⟩ : LSpan), (⟨0, 0⟩ : LSpan)⟩ : LHit))
       ((⟨1, (span_Div M x15 x9), (span_Div M x11 x9), (span_Div M x13 x9)⟩ : LHit)))
def shape_triangle.ok (M : Prims) (s : LShape) (r : LRay) : Bool :=
  let x1 := shape_edges M s
  cond (shape_edges.ok M s)
    (let x2 := vec_Cross M r.d x1.2
     cond (vec_Cross.ok M r.d x1.2)
       (let x3 := vec_Dot M x1.1 x2
        cond (vec_Dot.ok M x1.1 x2)
          (let x4 := shape_side M x3
           cond ((x4.2 : Int) != 1)
             (true)
             (let x6 := vec_Sub M r.o s.p.p0
              cond (vec_Sub.ok M r.o s.p.p0)
                (let x7 := vec_Cross M x6 x1.1
                 cond (vec_Cross.ok M x6 x1.1)
                   (let x8 := span_Of M x4.1
                    cond (span_Of.ok M x4.1)
                      (let x9 := span_Mul M x3 x8
                       cond (span_Mul.ok M x3 x8)
                         (let x10 := vec_Dot M x6 x2
                          cond (vec_Dot.ok M x6 x2)
                            (let x11 := span_Mul M x10 x8
                             cond (span_Mul.ok M x10 x8)
                               (let x12 := vec_Dot M r.d x7
                                cond (vec_Dot.ok M r.d x7)
                                  (let x13 := span_Mul M x12 x8
                                   cond (span_Mul.ok M x12 x8)
                                     (let x14 := vec_Dot M x1.2 x7
                                      cond (vec_Dot.ok M x1.2 x7)
                                        (let x15 := span_Mul M x14 x8
                                         cond (span_Mul.ok M x14 x8)
                                           (let x18 := span_Add M x11 x13
                                            cond (span_Add.ok M x11 x13)
                                              (cond (span_Sub.ok M x9 x18)
                                                 (cond (((shape_all_s4 M (shape_atLeast M x11) (shape_atLeast M x13) (shape_atLeast M (span_Sub M x9 x18)) (span_Positive M x15)) : Int) != 1)
                                                    (true)
                                                    (cond (span_Div.ok M x15 x9)
                                                       (cond (span_Div.ok M x11 x9)
                                                          (cond (span_Div.ok M x13 x9)
                                                             (true)
                                                             (false))
                                                          (false))
                                                       (false)))
                                                 (false))
                                              (false))
                                           (false))
                                        (false))
                                     (false))
                                  (false))
                               (false))
                            (false))
                         (false))
                      (false))
                   (false))
                (false)))
          (false))
       (false))
    (false)
def shape_triangle.fns (c72_4 : Int → Int → Int → Int → Int) (c38 : LSpan → Int) (c39 : LSpan → LSpan → LSpan) (c39ok : LSpan → LSpan → Bool) (c40 : LSpan → LSpan → LSpan) (c40ok : LSpan → LSpan → Bool) (c41 : Nat → LSpan) (c41ok : Nat → Bool) (c45 : LSpan → LSpan → LSpan) (c45ok : LSpan → LSpan → Bool) (c46 : LSpan → LSpan → LSpan) (c46ok : LSpan → LSpan → Bool) (c48 : LShape → LV3 × LV3) (c48ok : LShape → Bool) (c54 : LV3 → LV3 → LV3) (c54ok : LV3 → LV3 → Bool) (c61 : LV3 → LV3 → LSpan) (c61ok : LV3 → LV3 → Bool) (c70 : LV3 → LV3 → LV3) (c70ok : LV3 → LV3 → Bool) (c71 : LSpan → Nat × Int) (c73 : LSpan → Int) : FuncId → List Value → Option (Bool × Value) := ifId 72 (shape_all_s4.ph c72_4) <| ifId 38 (span_Positive.ph c38) <| ifId 39 (span_Div.ph c39 c39ok) <| ifId 40 (span_Mul.ph c40 c40ok) <| ifId 41 (span_Of.ph c41 c41ok) <| ifId 45 (span_Sub.ph c45 c45ok) <| ifId 46 (span_Add.ph c46 c46ok) <| ifId 48 (shape_edges.ph c48 c48ok) <| ifId 54 (vec_Sub.ph c54 c54ok) <| ifId 61 (vec_Dot.ph c61 c61ok) <| ifId 70 (vec_Cross.ph c70 c70ok) <| ifId 71 (shape_side.ph c71) <| ifId 73 (shape_atLeast.ph c73) <| noFns
theorem shape_triangle.fnsOK : PureFns Try.prog (shape_triangle.fns (shape_all_s4 M0) (span_Positive M0) (span_Div M0) (span_Div.ok M0) (span_Mul M0) (span_Mul.ok M0) (span_Of M0) (span_Of.ok M0) (span_Sub M0) (span_Sub.ok M0) (span_Add M0) (span_Add.ok M0) (shape_edges M0) (shape_edges.ok M0) (vec_Sub M0) (vec_Sub.ok M0) (vec_Dot M0) (vec_Dot.ok M0) (vec_Cross M0) (vec_Cross.ok M0) (shape_side M0) (shape_atLeast M0)) := ifIdOK shape_all_s4.phOK <| ifIdOK span_Positive.phOK <| ifIdOK span_Div.phOK <| ifIdOK span_Mul.phOK <| ifIdOK span_Of.phOK <| ifIdOK span_Sub.phOK <| ifIdOK span_Add.phOK <| ifIdOK shape_edges.phOK <| ifIdOK vec_Sub.phOK <| ifIdOK vec_Dot.phOK <| ifIdOK vec_Cross.phOK <| ifIdOK shape_side.phOK <| ifIdOK shape_atLeast.phOK <| noFnsOK
theorem shape_triangle.ev (M : Prims) (c72_4 : Int → Int → Int → Int → Int) (c38 : LSpan → Int) (c39 : LSpan → LSpan → LSpan) (c39ok : LSpan → LSpan → Bool) (c40 : LSpan → LSpan → LSpan) (c40ok : LSpan → LSpan → Bool) (c41 : Nat → LSpan) (c41ok : Nat → Bool) (c45 : LSpan → LSpan → LSpan) (c45ok : LSpan → LSpan → Bool) (c46 : LSpan → LSpan → LSpan) (c46ok : LSpan → LSpan → Bool) (c48 : LShape → LV3 × LV3) (c48ok : LShape → Bool) (c54 : LV3 → LV3 → LV3) (c54ok : LV3 → LV3 → Bool) (c61 : LV3 → LV3 → LSpan) (c61ok : LV3 → LV3 → Bool) (c70 : LV3 → LV3 → LV3) (c70ok : LV3 → LV3 → Bool) (c71 : LSpan → Nat × Int) (c73 : LSpan → Int)  (s : LShape) (r : LRay) : evP tab M (shape_triangle.fns c72_4 c38 c39 c39ok c40 c40ok c41 c41ok c45 c45ok c46 c46ok c48 c48ok c54 c54ok c61 c61ok c70 c70ok c71 c73) noLoops 300 Try.f35 [s.val, r.val] = shape_triangle.k M c72_4 c38 c39 c39ok c40 c40ok c41 c41ok c45 c45ok c46 c46ok c48 c48ok c54 c54ok c61 c61ok c70 c70ok c71 c73  s r (fun r => some (r.val, [])) := by kernel_rfl
theorem shape_triangle.k_eq (M : Prims) (s : LShape) (r : LRay) (k : LHit → R) : shape_triangle.ok M s r = true → shape_triangle.k M (shape_all_s4 M) (span_Positive M) (span_Div M) (span_Div.ok M) (span_Mul M) (span_Mul.ok M) (span_Of M) (span_Of.ok M) (span_Sub M) (span_Sub.ok M) (span_Add M) (span_Add.ok M) (shape_edges M) (shape_edges.ok M) (vec_Sub M) (vec_Sub.ok M) (vec_Dot M) (vec_Dot.ok M) (vec_Cross M) (vec_Cross.ok M) (shape_side M) (shape_atLeast M) s r k = k (shape_triangle M s r) := by
  unfold shape_triangle.ok shape_triangle.k shape_triangle
  exact kL (kL (kL (kC (fun _ => rfl) (kL (kL (kL (kL (kL (kL (kL (kL (kL (kL (kL (kL (kC (fun _ => rfl) (kL (kL (kL (fun _ => rfl))))))))))))))))))))
theorem shape_triangle.call (s : LShape) (r : LRay) (h : shape_triangle.ok M0 s r = true) : PureOK Try.prog 35 [s.val, r.val] ((shape_triangle M0 s r).val) :=
  evP_sound (P := Try.prog) mixed tabOK shape_triangle.fnsOK Try.func35 rfl (Λ := noLoops) (c := Try.f35.body.getD .skip) rfl (noLoopsOK _) rfl (Nat.zero_le 1) rfl rfl ((shape_triangle.ev M0 (shape_all_s4 M0) (span_Positive M0) (span_Div M0) (span_Div.ok M0) (span_Mul M0) (span_Mul.ok M0) (span_Of M0) (span_Of.ok M0) (span_Sub M0) (span_Sub.ok M0) (span_Add M0) (span_Add.ok M0) (shape_edges M0) (shape_edges.ok M0) (vec_Sub M0) (vec_Sub.ok M0) (vec_Dot M0) (vec_Dot.ok M0) (vec_Cross M0) (vec_Cross.ok M0) (shape_side M0) (shape_atLeast M0) s r).trans (shape_triangle.k_eq M0 s r _ h))
def shape_triangle.ph (c35 : LShape → LRay → LHit) (c35ok : LShape → LRay → Bool) : Ph := fun args => match args with
  | [.agg ⟨[.int .i64 a0_0, .float .f64 a0_1, .float .f64 a0_2, .float .f64 a0_3, .float .f64 a0_4, .float .f64 a0_5, .float .f64 a0_6, .float .f64 a0_7, .float .f64 a0_8, .float .f64 a0_9, .float .f64 a0_10, .float .f64 a0_11, .float .f64 a0_12, .float .f64 a0_13, .float .f64 a0_14, .float .f64 a0_15, .float .f64 a0_16, .float .f64 a0_17, .float .f64 a0_18, .float .f64 a0_19, .float .f64 a0_20]⟩, .agg ⟨[.float .f64 a1_0, .float .f64 a1_1, .float .f64 a1_2, .float .f64 a1_3, .float .f64 a1_4, .float .f64 a1_5, .float .f64 a1_6, .float .f64 a1_7, .float .f64 a1_8, .float .f64 a1_9, .float .f64 a1_10, .float .f64 a1_11]⟩] => some (c35ok (⟨a0_0, ⟨⟨⟨a0_1, a0_2⟩, ⟨a0_3, a0_4⟩, ⟨a0_5, a0_6⟩⟩, ⟨⟨a0_7, a0_8⟩, ⟨a0_9, a0_10⟩, ⟨a0_11, a0_12⟩⟩, ⟨⟨a0_13, a0_14⟩, ⟨a0_15, a0_16⟩, ⟨a0_17, a0_18⟩⟩⟩, ⟨a0_19, a0_20⟩⟩ : LShape) (⟨⟨⟨a1_0, a1_1⟩, ⟨a1_2, a1_3⟩, ⟨a1_4, a1_5⟩⟩, ⟨⟨a1_6, a1_7⟩, ⟨a1_8, a1_9⟩, ⟨a1_10, a1_11⟩⟩⟩ : LRay), (c35 (⟨a0_0, ⟨⟨⟨a0_1, a0_2⟩, ⟨a0_3, a0_4⟩, ⟨a0_5, a0_6⟩⟩, ⟨⟨a0_7, a0_8⟩, ⟨a0_9, a0_10⟩, ⟨a0_11, a0_12⟩⟩, ⟨⟨a0_13, a0_14⟩, ⟨a0_15, a0_16⟩, ⟨a0_17, a0_18⟩⟩⟩, ⟨a0_19, a0_20⟩⟩ : LShape) (⟨⟨⟨a1_0, a1_1⟩, ⟨a1_2, a1_3⟩, ⟨a1_4, a1_5⟩⟩, ⟨⟨a1_6, a1_7⟩, ⟨a1_8, a1_9⟩, ⟨a1_10, a1_11⟩⟩⟩ : LRay)).val)
  | _ => none
theorem shape_triangle.phOK : PhOK Try.prog 35 (shape_triangle.ph (shape_triangle M0) (shape_triangle.ok M0)) := ⟨by
  intro args v h
  unfold shape_triangle.ph at h
  split at h
  · rename_i a0_0 a0_1 a0_2 a0_3 a0_4 a0_5 a0_6 a0_7 a0_8 a0_9 a0_10 a0_11 a0_12 a0_13 a0_14 a0_15 a0_16 a0_17 a0_18 a0_19 a0_20 a1_0 a1_1 a1_2 a1_3 a1_4 a1_5 a1_6 a1_7 a1_8 a1_9 a1_10 a1_11
    simp only [Option.some.injEq, Prod.mk.injEq] at h
    obtain ⟨hok, rfl⟩ := h
    exact ⟨rfl, rfl, shape_triangle.call (⟨a0_0, ⟨⟨⟨a0_1, a0_2⟩, ⟨a0_3, a0_4⟩, ⟨a0_5, a0_6⟩⟩, ⟨⟨a0_7, a0_8⟩, ⟨a0_9, a0_10⟩, ⟨a0_11, a0_12⟩⟩, ⟨⟨a0_13, a0_14⟩, ⟨a0_15, a0_16⟩, ⟨a0_17, a0_18⟩⟩⟩, ⟨a0_19, a0_20⟩⟩ : LShape) (⟨⟨⟨a1_0, a1_1⟩, ⟨a1_2, a1_3⟩, ⟨a1_4, a1_5⟩⟩, ⟨⟨a1_6, a1_7⟩, ⟨a1_8, a1_9⟩, ⟨a1_10, a1_11⟩⟩⟩ : LRay) hok⟩
  · cases h⟩
def span_Sqr.k (M : Prims) (c40 : LSpan → LSpan → LSpan) (c40ok : LSpan → LSpan → Bool) (c75 : LSpan → Bool) (c75ok : LSpan → Bool) (c77 : Int → Nat) (a : LSpan) (k : LSpan → R) : R :=
  cond (c75ok a)
    (cond (c75 a)
       (k (⟨0, (c77 1)⟩ : LSpan))
       (let x3 := c40 a a
        cond (c40ok a a)
          (cond (M.le a.lo 0)
             (cond (M.ge a.hi 0)
                (k (⟨0, x3.hi⟩ : LSpan))
                (k x3))
             (k x3))
          (none)))
    (none)
def span_Sqr (M : Prims) (a : LSpan) : LSpan :=
  cond (span_Wide M a)
    ((⟨0, (math_Inf M 1)⟩ : LSpan))
    (let x3 := span_Mul M a a
     cond (M.le a.lo 0)
       (cond (M.ge a.hi 0)
          ((⟨0, x3.hi⟩ : LSpan))
          (x3))
       (x3))
def span_Sqr.ok (M : Prims) (a : LSpan) : Bool :=
  cond (span_Wide.ok M a)
    (cond (span_Wide M a)
       (true)
       (cond (span_Mul.ok M a a)
          (true)
          (false)))
    (false)
def span_Sqr.fns (c40 : LSpan → LSpan → LSpan) (c40ok : LSpan → LSpan → Bool) (c75 : LSpan → Bool) (c75ok : LSpan → Bool) (c77 : Int → Nat) : FuncId → List Value → Option (Bool × Value) := ifId 40 (span_Mul.ph c40 c40ok) <| ifId 75 (span_Wide.ph c75 c75ok) <| ifId 77 (math_Inf.ph c77) <| noFns
theorem span_Sqr.fnsOK : PureFns Try.prog (span_Sqr.fns (span_Mul M0) (span_Mul.ok M0) (span_Wide M0) (span_Wide.ok M0) (math_Inf M0)) := ifIdOK span_Mul.phOK <| ifIdOK span_Wide.phOK <| ifIdOK math_Inf.phOK <| noFnsOK
theorem span_Sqr.ev (M : Prims) (c40 : LSpan → LSpan → LSpan) (c40ok : LSpan → LSpan → Bool) (c75 : LSpan → Bool) (c75ok : LSpan → Bool) (c77 : Int → Nat)  (a : LSpan) : evP tab M (span_Sqr.fns c40 c40ok c75 c75ok c77) noLoops 300 Try.f74 [a.val] = span_Sqr.k M c40 c40ok c75 c75ok c77  a (fun r => some (r.val, [])) := by kernel_rfl
theorem span_Sqr.k_eq (M : Prims) (a : LSpan) (k : LSpan → R) : span_Sqr.ok M a = true → span_Sqr.k M (span_Mul M) (span_Mul.ok M) (span_Wide M) (span_Wide.ok M) (math_Inf M) a k = k (span_Sqr M a) := by
  unfold span_Sqr.ok span_Sqr.k span_Sqr
  exact kL (kC (fun _ => rfl) (kL (fun _ => pC (pC rfl rfl) rfl)))
theorem span_Sqr.call (a : LSpan) (h : span_Sqr.ok M0 a = true) : PureOK Try.prog 74 [a.val] ((span_Sqr M0 a).val) :=
  evP_sound (P := Try.prog) mixed tabOK span_Sqr.fnsOK Try.func74 rfl (Λ := noLoops) (c := Try.f74.body.getD .skip) rfl (noLoopsOK _) rfl (Nat.zero_le 1) rfl rfl ((span_Sqr.ev M0 (span_Mul M0) (span_Mul.ok M0) (span_Wide M0) (span_Wide.ok M0) (math_Inf M0) a).trans (span_Sqr.k_eq M0 a _ h))
def span_Sqr.ph (c74 : LSpan → LSpan) (c74ok : LSpan → Bool) : Ph := fun args => match args with
  | [.agg ⟨[.float .f64 a0_0, .float .f64 a0_1]⟩] => some (c74ok (⟨a0_0, a0_1⟩ : LSpan), (c74 (⟨a0_0, a0_1⟩ : LSpan)).val)
  | _ => none
theorem span_Sqr.phOK : PhOK Try.prog 74 (span_Sqr.ph (span_Sqr M0) (span_Sqr.ok M0)) := ⟨by
  intro args v h
  unfold span_Sqr.ph at h
  split at h
  · rename_i a0_0 a0_1
    simp only [Option.some.injEq, Prod.mk.injEq] at h
    obtain ⟨hok, rfl⟩ := h
    exact ⟨rfl, rfl, span_Sqr.call (⟨a0_0, a0_1⟩ : LSpan) hok⟩
  · cases h⟩
def vec_Sqr.k (_ : Prims) (c46 : LSpan → LSpan → LSpan) (c46ok : LSpan → LSpan → Bool) (c74 : LSpan → LSpan) (c74ok : LSpan → Bool) (a : LV3) (k : LSpan → R) : R :=
  let x1 := c74 a.p0
  cond (c74ok a.p0)
    (let x2 := c74 a.p1
     cond (c74ok a.p1)
       (let x3 := c46 x1 x2
        cond (c46ok x1 x2)
          (let x4 := c74 a.p2
           cond (c74ok a.p2)
             (cond (c46ok x3 x4)
                (k (c46 x3 x4))
                (none))
             (none))
          (none))
       (none))
    (none)
def vec_Sqr (M : Prims) (a : LV3) : LSpan :=
  (span_Add M (span_Add M (span_Sqr M a.p0) (span_Sqr M a.p1)) (span_Sqr M a.p2))
def vec_Sqr.ok (M : Prims) (a : LV3) : Bool :=
  let x1 := span_Sqr M a.p0
  cond (span_Sqr.ok M a.p0)
    (let x2 := span_Sqr M a.p1
     cond (span_Sqr.ok M a.p1)
       (cond (span_Add.ok M x1 x2)
          (cond (span_Sqr.ok M a.p2)
             (cond (span_Add.ok M (span_Add M x1 x2) (span_Sqr M a.p2))
                (true)
                (false))
             (false))
          (false))
       (false))
    (false)
def vec_Sqr.fns (c46 : LSpan → LSpan → LSpan) (c46ok : LSpan → LSpan → Bool) (c74 : LSpan → LSpan) (c74ok : LSpan → Bool) : FuncId → List Value → Option (Bool × Value) := ifId 46 (span_Add.ph c46 c46ok) <| ifId 74 (span_Sqr.ph c74 c74ok) <| noFns
theorem vec_Sqr.fnsOK : PureFns Try.prog (vec_Sqr.fns (span_Add M0) (span_Add.ok M0) (span_Sqr M0) (span_Sqr.ok M0)) := ifIdOK span_Add.phOK <| ifIdOK span_Sqr.phOK <| noFnsOK
theorem vec_Sqr.ev (M : Prims) (c46 : LSpan → LSpan → LSpan) (c46ok : LSpan → LSpan → Bool) (c74 : LSpan → LSpan) (c74ok : LSpan → Bool)  (a : LV3) : evP tab M (vec_Sqr.fns c46 c46ok c74 c74ok) noLoops 300 Try.f57 [a.val] = vec_Sqr.k M c46 c46ok c74 c74ok  a (fun r => some (r.val, [])) := by kernel_rfl
theorem vec_Sqr.k_eq (M : Prims) (a : LV3) (k : LSpan → R) : vec_Sqr.ok M a = true → vec_Sqr.k M (span_Add M) (span_Add.ok M) (span_Sqr M) (span_Sqr.ok M) a k = k (vec_Sqr M a) := by
  unfold vec_Sqr.ok vec_Sqr.k vec_Sqr
  exact kL (kL (kL (kL (kL (fun _ => rfl)))))
theorem vec_Sqr.call (a : LV3) (h : vec_Sqr.ok M0 a = true) : PureOK Try.prog 57 [a.val] ((vec_Sqr M0 a).val) :=
  evP_sound (P := Try.prog) mixed tabOK vec_Sqr.fnsOK Try.func57 rfl (Λ := noLoops) (c := Try.f57.body.getD .skip) rfl (noLoopsOK _) rfl (Nat.zero_le 1) rfl rfl ((vec_Sqr.ev M0 (span_Add M0) (span_Add.ok M0) (span_Sqr M0) (span_Sqr.ok M0) a).trans (vec_Sqr.k_eq M0 a _ h))
def vec_Sqr.ph (c57 : LV3 → LSpan) (c57ok : LV3 → Bool) : Ph := fun args => match args with
  | [.agg ⟨[.float .f64 a0_0, .float .f64 a0_1, .float .f64 a0_2, .float .f64 a0_3, .float .f64 a0_4, .float .f64 a0_5]⟩] => some (c57ok (⟨⟨a0_0, a0_1⟩, ⟨a0_2, a0_3⟩, ⟨a0_4, a0_5⟩⟩ : LV3), (c57 (⟨⟨a0_0, a0_1⟩, ⟨a0_2, a0_3⟩, ⟨a0_4, a0_5⟩⟩ : LV3)).val)
  | _ => none
theorem vec_Sqr.phOK : PhOK Try.prog 57 (vec_Sqr.ph (vec_Sqr M0) (vec_Sqr.ok M0)) := ⟨by
  intro args v h
  unfold vec_Sqr.ph at h
  split at h
  · rename_i a0_0 a0_1 a0_2 a0_3 a0_4 a0_5
    simp only [Option.some.injEq, Prod.mk.injEq] at h
    obtain ⟨hok, rfl⟩ := h
    exact ⟨rfl, rfl, vec_Sqr.call (⟨⟨a0_0, a0_1⟩, ⟨a0_2, a0_3⟩, ⟨a0_4, a0_5⟩⟩ : LV3) hok⟩
  · cases h⟩
def shape_quad.k (_ : Prims) (c45 : LSpan → LSpan → LSpan) (c45ok : LSpan → LSpan → Bool) (c54 : LV3 → LV3 → LV3) (c54ok : LV3 → LV3 → Bool) (c57 : LV3 → LSpan) (c57ok : LV3 → Bool) (c61 : LV3 → LV3 → LSpan) (c61ok : LV3 → LV3 → Bool) (c74 : LSpan → LSpan) (c74ok : LSpan → Bool) (s : LShape) (r : LRay) (k : LSpan × LSpan × LSpan → R) : R :=
  let x1 := c54 r.o s.p.p0
  cond (c54ok r.o s.p.p0)
    (cond (c57ok r.d)
       (cond (c61ok x1 r.d)
          (let x4 := c57 x1
           cond (c57ok x1)
             (let x5 := c74 s.r
              cond (c74ok s.r)
                (cond (c45ok x4 x5)
                   (k ((c57 r.d), (c61 x1 r.d), (c45 x4 x5)))
                   (none))
                (none))
             (none))
          (none))
       (none))
    (none)
def shape_quad (M : Prims) (s : LShape) (r : LRay) : LSpan × LSpan × LSpan :=
  let x1 := vec_Sub M r.o s.p.p0
  ((vec_Sqr M r.d), (vec_Dot M x1 r.d), (span_Sub M (vec_Sqr M x1) (span_Sqr M s.r)))
def shape_quad.ok (M : Prims) (s : LShape) (r : LRay) : Bool :=
  let x1 := vec_Sub M r.o s.p.p0
  cond (vec_Sub.ok M r.o s.p.p0)
    (cond (vec_Sqr.ok M r.d)
       (cond (vec_Dot.ok M x1 r.d)
          (cond (vec_Sqr.ok M x1)
             (cond (span_Sqr.ok M s.r)
                (cond (span_Sub.ok M (vec_Sqr M x1) (span_Sqr M s.r))
                   (true)
                   (false))
                (false))
             (false))
          (false))
       (false))
    (false)
def shape_quad.fns (c45 : LSpan → LSpan → LSpan) (c45ok : LSpan → LSpan → Bool) (c54 : LV3 → LV3 → LV3) (c54ok : LV3 → LV3 → Bool) (c57 : LV3 → LSpan) (c57ok : LV3 → Bool) (c61 : LV3 → LV3 → LSpan) (c61ok : LV3 → LV3 → Bool) (c74 : LSpan → LSpan) (c74ok : LSpan → Bool) : FuncId → List Value → Option (Bool × Value) := ifId 45 (span_Sub.ph c45 c45ok) <| ifId 54 (vec_Sub.ph c54 c54ok) <| ifId 57 (vec_Sqr.ph c57 c57ok) <| ifId 61 (vec_Dot.ph c61 c61ok) <| ifId 74 (span_Sqr.ph c74 c74ok) <| noFns
theorem shape_quad.fnsOK : PureFns Try.prog (shape_quad.fns (span_Sub M0) (span_Sub.ok M0) (vec_Sub M0) (vec_Sub.ok M0) (vec_Sqr M0) (vec_Sqr.ok M0) (vec_Dot M0) (vec_Dot.ok M0) (span_Sqr M0) (span_Sqr.ok M0)) := ifIdOK span_Sub.phOK <| ifIdOK vec_Sub.phOK <| ifIdOK vec_Sqr.phOK <| ifIdOK vec_Dot.phOK <| ifIdOK span_Sqr.phOK <| noFnsOK
theorem shape_quad.ev (M : Prims) (c45 : LSpan → LSpan → LSpan) (c45ok : LSpan → LSpan → Bool) (c54 : LV3 → LV3 → LV3) (c54ok : LV3 → LV3 → Bool) (c57 : LV3 → LSpan) (c57ok : LV3 → Bool) (c61 : LV3 → LV3 → LSpan) (c61ok : LV3 → LV3 → Bool) (c74 : LSpan → LSpan) (c74ok : LSpan → Bool)  (s : LShape) (r : LRay) : evP tab M (shape_quad.fns c45 c45ok c54 c54ok c57 c57ok c61 c61ok c74 c74ok) noLoops 300 Try.f37 [s.val, r.val] = shape_quad.k M c45 c45ok c54 c54ok c57 c57ok c61 c61ok c74 c74ok  s r (fun r => some (.tuple ⟨[r.1.val, r.2.1.val, r.2.2.val]⟩, [])) := by kernel_rfl
theorem shape_quad.k_eq (M : Prims) (s : LShape) (r : LRay) (k : LSpan × LSpan × LSpan → R) : shape_quad.ok M s r = true → shape_quad.k M (span_Sub M) (span_Sub.ok M) (vec_Sub M) (vec_Sub.ok M) (vec_Sqr M) (vec_Sqr.ok M) (vec_Dot M) (vec_Dot.ok M) (span_Sqr M) (span_Sqr.ok M) s r k = k (shape_quad M s r) := by
  unfold shape_quad.ok shape_quad.k shape_quad
  exact kL (kL (kL (kL (kL (kL (fun _ => rfl))))))
theorem shape_quad.call (s : LShape) (r : LRay) (h : shape_quad.ok M0 s r = true) : PureOK Try.prog 37 [s.val, r.val] (.tuple ⟨[((shape_quad M0 s r).1).val, ((shape_quad M0 s r).2.1).val, ((shape_quad M0 s r).2.2).val]⟩) :=
  evP_sound (P := Try.prog) mixed tabOK shape_quad.fnsOK Try.func37 rfl (Λ := noLoops) (c := Try.f37.body.getD .skip) rfl (noLoopsOK _) rfl (Nat.zero_le 1) rfl rfl ((shape_quad.ev M0 (span_Sub M0) (span_Sub.ok M0) (vec_Sub M0) (vec_Sub.ok M0) (vec_Sqr M0) (vec_Sqr.ok M0) (vec_Dot M0) (vec_Dot.ok M0) (span_Sqr M0) (span_Sqr.ok M0) s r).trans (shape_quad.k_eq M0 s r _ h))
def shape_quad.ph (c37 : LShape → LRay → LSpan × LSpan × LSpan) (c37ok : LShape → LRay → Bool) : Ph := fun args => match args with
  | [.agg ⟨[.int .i64 a0_0, .float .f64 a0_1, .float .f64 a0_2, .float .f64 a0_3, .float .f64 a0_4, .float .f64 a0_5, .float .f64 a0_6, .float .f64 a0_7, .float .f64 a0_8, .float .f64 a0_9, .float .f64 a0_10, .float .f64 a0_11, .float .f64 a0_12, .float .f64 a0_13, .float .f64 a0_14, .float .f64 a0_15, .float .f64 a0_16, .float .f64 a0_17, .float .f64 a0_18, .float .f64 a0_19, .float .f64 a0_20]⟩, .agg ⟨[.float .f64 a1_0, .float .f64 a1_1, .float .f64 a1_2, .float .f64 a1_3, .float .f64 a1_4, .float .f64 a1_5, .float .f64 a1_6, .float .f64 a1_7, .float .f64 a1_8, .float .f64 a1_9, .float .f64 a1_10, .float .f64 a1_11]⟩] => some (c37ok (⟨a0_0, ⟨⟨⟨a0_1, a0_2⟩, ⟨a0_3, a0_4⟩, ⟨a0_5, a0_6⟩⟩, ⟨⟨a0_7, a0_8⟩, ⟨a0_9, a0_10⟩, ⟨a0_11, a0_12⟩⟩, ⟨⟨a0_13, a0_14⟩, ⟨a0_15, a0_16⟩, ⟨a0_17, a0_18⟩⟩⟩, ⟨a0_19, a0_20⟩⟩ : LShape) (⟨⟨⟨a1_0, a1_1⟩, ⟨a1_2, a1_3⟩, ⟨a1_4, a1_5⟩⟩, ⟨⟨a1_6, a1_7⟩, ⟨a1_8, a1_9⟩, ⟨a1_10, a1_11⟩⟩⟩ : LRay), .tuple ⟨[((c37 (⟨a0_0, ⟨⟨⟨a0_1, a0_2⟩, ⟨a0_3, a0_4⟩, ⟨a0_5, a0_6⟩⟩, ⟨⟨a0_7, a0_8⟩, ⟨a0_9, a0_10⟩, ⟨a0_11, a0_12⟩⟩, ⟨⟨a0_13, a0_14⟩, ⟨a0_15, a0_16⟩, ⟨a0_17, a0_18⟩⟩⟩, ⟨a0_19, a0_20⟩⟩ : LShape) (⟨⟨⟨a1_0, a1_1⟩, ⟨a1_2, a1_3⟩, ⟨a1_4, a1_5⟩⟩, ⟨⟨a1_6, a1_7⟩, ⟨a1_8, a1_9⟩, ⟨a1_10, a1_11⟩⟩⟩ : LRay)).1).val, ((c37 (⟨a0_0, ⟨⟨⟨a0_1, a0_2⟩, ⟨a0_3, a0_4⟩, ⟨a0_5, a0_6⟩⟩, ⟨⟨a0_7, a0_8⟩, ⟨a0_9, a0_10⟩, ⟨a0_11, a0_12⟩⟩, ⟨⟨a0_13, a0_14⟩, ⟨a0_15, a0_16⟩, ⟨a0_17, a0_18⟩⟩⟩, ⟨a0_19, a0_20⟩⟩ : LShape) (⟨⟨⟨a1_0, a1_1⟩, ⟨a1_2, a1_3⟩, ⟨a1_4, a1_5⟩⟩, ⟨⟨a1_6, a1_7⟩, ⟨a1_8, a1_9⟩, ⟨a1_10, a1_11⟩⟩⟩ : LRay)).2.1).val, ((c37 (⟨a0_0, ⟨⟨⟨a0_1, a0_2⟩, ⟨a0_3, a0_4⟩, ⟨a0_5, a0_6⟩⟩, ⟨⟨a0_7, a0_8⟩, ⟨a0_9, a0_10⟩, ⟨a0_11, a0_12⟩⟩, ⟨⟨a0_13, a0_14⟩, ⟨a0_15, a0_16⟩, ⟨a0_17, a0_18⟩⟩⟩, ⟨a0_19, a0_20⟩⟩ : LShape) (⟨⟨⟨a1_0, a1_1⟩, ⟨a1_2, a1_3⟩, ⟨a1_4, a1_5⟩⟩, ⟨⟨a1_6, a1_7⟩, ⟨a1_8, a1_9⟩, ⟨a1_10, a1_11⟩⟩⟩ : LRay)).2.2).val]⟩)
  | _ => none
theorem shape_quad.phOK : PhOK Try.prog 37 (shape_quad.ph (shape_quad M0) (shape_quad.ok M0)) := ⟨by
  intro args v h
  unfold shape_quad.ph at h
  split at h
  · rename_i a0_0 a0_1 a0_2 a0_3 a0_4 a0_5 a0_6 a0_7 a0_8 a0_9 a0_10 a0_11 a0_12 a0_13 a0_14 a0_15 a0_16 a0_17 a0_18 a0_19 a0_20 a1_0 a1_1 a1_2 a1_3 a1_4 a1_5 a1_6 a1_7 a1_8 a1_9 a1_10 a1_11
    simp only [Option.some.injEq, Prod.mk.injEq] at h
    obtain ⟨hok, rfl⟩ := h
    exact ⟨rfl, rfl, shape_quad.call (⟨a0_0, ⟨⟨⟨a0_1, a0_2⟩, ⟨a0_3, a0_4⟩, ⟨a0_5, a0_6⟩⟩, ⟨⟨a0_7, a0_8⟩, ⟨a0_9, a0_10⟩, ⟨a0_11, a0_12⟩⟩, ⟨⟨a0_13, a0_14⟩, ⟨a0_15, a0_16⟩, ⟨a0_17, a0_18⟩⟩⟩, ⟨a0_19, a0_20⟩⟩ : LShape) (⟨⟨⟨a1_0, a1_1⟩, ⟨a1_2, a1_3⟩, ⟨a1_4, a1_5⟩⟩, ⟨⟨a1_6, a1_7⟩, ⟨a1_8, a1_9⟩, ⟨a1_10, a1_11⟩⟩⟩ : LRay) hok⟩
  · cases h⟩
def round_root.L3.k {ρ : Type} (M : Prims) (c105 : Int → Int → Int × Int) (s : Int × Int × Int × Int) (kn kx : (Int × Int × Int × Int) → Option ρ) : Option ρ :=
  cond (decide (s.2.2.2 < 58))
    (let x2 := IntKind.i64.wrap (57 - s.2.2.2)
     cond (decide (0 ≤ x2))
       (let x4 := M.or .u64 s.2.2.1 (shlV .u64 1 x2)
        let x5 := c105 x4 x4
        cond (decide (x5.1 < s.1))
          (kn (s.1, s.2.1, x4, (IntKind.i64.wrap (s.2.2.2 + 1))))
          (cond ((x5.1 : Int) == s.1)
             (cond (decide (x5.2 ≤ s.2.1))
                (kn (s.1, s.2.1, x4, (IntKind.i64.wrap (s.2.2.2 + 1))))
                (kn (s.1, s.2.1, s.2.2.1, (IntKind.i64.wrap (s.2.2.2 + 1)))))
             (kn (s.1, s.2.1, s.2.2.1, (IntKind.i64.wrap (s.2.2.2 + 1))))))
       (none))
    (kx (s.1, s.2.1, s.2.2.1, s.2.2.2))
def round_root.L3.step (M : Prims) (s : Int × Int × Int × Int) : Option (Bool × (Int × Int × Int × Int)) := round_root.L3.k M (bits_Mul64 M) s (fun t => some (true, t)) (fun t => some (false, t))
def round_root.L3 (M : Prims) (a0 : Int) (a1 : Int) (a2 : Int) (a3 : Int) : Int × Int × Int × Int := (runL (round_root.L3.step M) (60) (a0, a1, a2, a3)).getD (a0, a1, a2, a3)
def round_root.L3.ok (M : Prims) (a0 : Int) (a1 : Int) (a2 : Int) (a3 : Int) : Bool := (runL (round_root.L3.step M) (60) (a0, a1, a2, a3)).isSome
def round_root.L3.vals (s : Int × Int × Int × Int) : List (Nat × Value) := [(0, .int .u64 s.1), (1, .int .u64 s.2.1), (6, .int .u64 s.2.2.1), (13, .int .i64 s.2.2.2)]
def round_root.L3.asgL : List Nat := [14, 15, 7, 16, 17, 18, 19, 20, 8, 22, 23, 24, 21, 25, 26, 9, 10, 27, 28, 29, 30, 31, 32, 33, 34, 35, 36, 37, 38, 39, 40, 6, 41, 13]
noncomputable def round_root.L3.body : Code := (nth (loopsOf (Try.f108.body.getD .skip)) 0).getD .skip
def round_root.k (_ : Prims) (c105 : Int → Int → Int × Int) (l3 : Int → Int → Int → Int → Int × Int × Int × Int) (l3ok : Int → Int → Int → Int → Bool) (hi : Int) (lo : Int) (k : Int × Bool → R) : R :=
  let x13 := l3 hi lo 0 0
  cond (l3ok hi lo 0 0)
    (let x14 := c105 x13.2.2.1 x13.2.2.1
     cond ((x14.1 : Int) != x13.1)
       (k (x13.2.2.1, true))
       (k (x13.2.2.1, ((x14.2 : Int) != x13.2.1))))
    (none)
def round_root (M : Prims) (hi : Int) (lo : Int) : Int × Bool :=
  let x13 := round_root.L3 M hi lo 0 0
  let x14 := bits_Mul64 M x13.2.2.1 x13.2.2.1
  cond ((x14.1 : Int) != x13.1)
    ((x13.2.2.1, true))
    ((x13.2.2.1, ((x14.2 : Int) != x13.2.1)))
def round_root.ok (M : Prims) (hi : Int) (lo : Int) : Bool :=
  cond (round_root.L3.ok M hi lo 0 0)
    (true)
    (false)
def round_root.fns (c105 : Int → Int → Int × Int) : FuncId → List Value → Option (Bool × Value) := ifId 105 (bits_Mul64.ph c105) <| noFns
def round_root.L3.at (l : Int → Int → Int → Int → Int × Int × Int × Int) (lok : Int → Int → Int → Int → Bool) (e : Env) (h : Hp) : Option (Bool × Nat × Env × Hp) :=
  match keysLt 57 e, getE e 0, getE e 1, getE e 6, getE e 13 with
  | true, .int .u64 a0, .int .u64 a1, .int .u64 a2, .int .i64 a3 => some (lok a0 a1 a2 a3, 0, mkE (round_root.L3.vals (l a0 a1 a2 a3)) round_root.L3.asgL (getE e) (upTo 57 0), h)
  | _, _, _, _, _ => none
def round_root.lps (l3 : Int → Int → Int → Int → Int × Int × Int × Int) (l3ok : Int → Int → Int → Int → Bool) : Loops := fun key e h => match key with
  | 3 => round_root.L3.at l3 l3ok e h
  | _ => none
theorem round_root.L3.ev (M : Prims) (c105 : Int → Int → Int × Int) (l3 : Int → Int → Int → Int → Int × Int × Int × Int) (l3ok : Int → Int → Int → Int → Bool) (b : Nat → Value) (h : Hp) (s : Int × Int × Int × Int) : ev tab M (pureFns (round_root.fns c105)) (round_root.lps l3 l3ok) true 57 60 round_root.L3.body (mkE (round_root.L3.vals s) round_root.L3.asgL b (upTo 57 0)) h (fun o e h => some (o, getEs e [0, 1, 6, 13], h)) = round_root.L3.k M c105 s (fun t => some (.norm, sndL (round_root.L3.vals t), h)) (fun t => some (.exit 0, sndL (round_root.L3.vals t), h)) := by kernel_rfl
theorem round_root.L3.nat {ρ : Type} (M : Prims) (s s2 : Int × Int × Int × Int) (g : Bool) (kn kx : (Int × Int × Int × Int) → Option ρ) : round_root.L3.step M s = some (g, s2) → round_root.L3.k M (bits_Mul64 M) s kn kx = cond g (kn s2) (kx s2) := by
  unfold round_root.L3.step round_root.L3.k
  exact nC (nC (nC nN (nC (nC nN nN) nN)) nD) nX
theorem round_root.fnsOK : PureFns Try.prog (round_root.fns (bits_Mul64 M0)) := ifIdOK bits_Mul64.phOK <| noFnsOK
theorem round_root.L3.isOK : LoopOK Try.prog 57 (round_root.lps (round_root.L3 M0) (round_root.L3.ok M0)) round_root.L3.body := by
  intro e h x e2 h2 hL0
  rw [show keyOf round_root.L3.body = 3 from by kernel_rfl] at hL0
  have hL : round_root.L3.at (round_root.L3 M0) (round_root.L3.ok M0) e h = some (true, x, e2, h2) := hL0
  unfold round_root.L3.at at hL
  split at hL
  · rename_i a0 a1 a2 a3 hk e0 e1 e2 e3
    simp only [Option.some.injEq, Prod.mk.injEq] at hL
    obtain ⟨hok, rfl, rfl, rfl⟩ := hL
    obtain ⟨s2, hs⟩ := Option.isSome_iff_exists.1 hok
    unfold round_root.L3
    rw [hs]
    refine loop_rounds (P := Try.prog) (T := tab) (Φ := pureFns (round_root.fns (bits_Mul64 M0))) (pc := true) (Λ := (round_root.lps (round_root.L3 M0) (round_root.L3.ok M0))) (setting_pure (P := Try.prog) mixed tabOK round_root.fnsOK) (c := round_root.L3.body) (by rw [show loopsOf round_root.L3.body = [] from by kernel_rfl]; exact trivial) (by rw [show loopsOf round_root.L3.body = [] from by kernel_rfl]; exact trivial) (round_root.L3.step M0) round_root.L3.vals [0, 1, 6, 13] (fun _ => rfl) 0 60 (asg := round_root.L3.asgL) (by kernel_rfl) ?_ (by kernel_rfl) _ _ _ e h hs hk ?_
    · intro b h s s2 g hst
      refine (round_root.L3.ev M0 (bits_Mul64 M0) (round_root.L3 M0) (round_root.L3.ok M0) b h s).trans ((round_root.L3.nat M0 s s2 g _ _ hst).trans ?_)
      cases g <;> rfl
    · intro p hp
      simp only [round_root.L3.vals, List.mem_cons, List.not_mem_nil, or_false] at hp
      rcases hp with rfl | rfl | rfl | rfl <;> assumption
  · cases hL
theorem round_root.lpsOK : LoopsOK Try.prog 57 (round_root.lps (round_root.L3 M0) (round_root.L3.ok M0)) (loopsOf (Try.f108.body.getD .skip)) := by
  rw [show loopsOf (Try.f108.body.getD .skip) = [round_root.L3.body] from by kernel_rfl]
  exact ⟨round_root.L3.isOK, trivial⟩
theorem round_root.ev (M : Prims) (c105 : Int → Int → Int × Int) (l3 : Int → Int → Int → Int → Int × Int × Int × Int) (l3ok : Int → Int → Int → Int → Bool) (hi : Int) (lo : Int) : evP tab M (round_root.fns c105) (round_root.lps l3 l3ok) 300 Try.f108 [(.int .u64 hi), (.int .u64 lo)] = round_root.k M c105 l3 l3ok hi lo (fun r => some (.tuple ⟨[(.int .u64 r.1), (.bool r.2)]⟩, [])) := by kernel_rfl
theorem round_root.k_eq (M : Prims) (hi : Int) (lo : Int) (k : Int × Bool → R) : round_root.ok M hi lo = true → round_root.k M (bits_Mul64 M) (round_root.L3 M) (round_root.L3.ok M) hi lo k = k (round_root M hi lo) := by
  unfold round_root.ok round_root.k round_root
  exact kL (fun _ => pC rfl rfl)
theorem round_root.call (hi : Int) (lo : Int) (h : round_root.ok M0 hi lo = true) : PureOK Try.prog 108 [(.int .u64 hi), (.int .u64 lo)] (.tuple ⟨[(.int .u64 ((round_root M0 hi lo).1)), (.bool ((round_root M0 hi lo).2))]⟩) :=
  evP_sound (P := Try.prog) mixed tabOK round_root.fnsOK Try.func108 rfl (Λ := (round_root.lps (round_root.L3 M0) (round_root.L3.ok M0))) (c := Try.f108.body.getD .skip) rfl round_root.lpsOK rfl (Nat.zero_le 1) rfl rfl ((round_root.ev M0 (bits_Mul64 M0) (round_root.L3 M0) (round_root.L3.ok M0) hi lo).trans (round_root.k_eq M0 hi lo _ h))
def round_root.ph (c108 : Int → Int → Int × Bool) (c108ok : Int → Int → Bool) : Ph := fun args => match args with
  | [.int .u64 a0_, .int .u64 a1_] => some (c108ok a0_ a1_, .tuple ⟨[(.int .u64 ((c108 a0_ a1_).1)), (.bool ((c108 a0_ a1_).2))]⟩)
  | _ => none
theorem round_root.phOK : PhOK Try.prog 108 (round_root.ph (round_root M0) (round_root.ok M0)) := ⟨by
  intro args v h
  unfold round_root.ph at h
  split at h
  · rename_i a0_ a1_
    simp only [Option.some.injEq, Prod.mk.injEq] at h
    obtain ⟨hok, rfl⟩ := h
    exact ⟨rfl, rfl, round_root.call a0_ a1_ hok⟩
  · cases h⟩
def round_Sqrt.k (M : Prims) (c100 : Nat → LExact) (c100ok : Nat → Bool) (c101 : LExact → Int → LExact) (c101ok : LExact → Int → Bool) (c102 : LExact → Int) (c102ok : LExact → Bool) (c104 : LExact → Bool → Nat) (c104ok : LExact → Bool → Bool) (c108 : Int → Int → Int × Bool) (c108ok : Int → Int → Bool) (c80 : Nat → Bool) (c80ok : Nat → Bool) (a : Nat) (down : Bool) (k : Nat × Int → R) : R :=
  cond (c80ok a)
    (cond (!(c80 a))
       (k (0, 10))
       (cond (M.lt a 0)
          (k (0, 12))
          (cond (M.eq a 0)
             (k (0, 0))
             (let x5 := c100 a
              cond (c100ok a)
                (cond (c102ok x5)
                   (let x7 := IntKind.i64.wrap (115 - (c102 x5))
                    let x8 := c101 x5 x7
                    cond (c101ok x5 x7)
                      (cond (((Int.tmod x8.e 2) : Int) != 0)
                         (let x11 := c101 x8 1
                          cond (c101ok x8 1)
                            (let x12 := c108 x11.hi x11.lo
                             cond (c108ok x11.hi x11.lo)
                               (let x13 := IntKind.i64.wrap (Int.tdiv x11.e 2)
                                cond (c104ok (⟨false, 0, x12.1, x13, x12.2⟩ : LExact) down)
                                  (k ((c104 (⟨false, 0, x12.1, x13, x12.2⟩ : LExact) down), 0))
                                  (none))
                               (none))
                            (none))
                         (let x15 := c108 x8.hi x8.lo
                          cond (c108ok x8.hi x8.lo)
                            (let x16 := IntKind.i64.wrap (Int.tdiv x8.e 2)
                             cond (c104ok (⟨false, 0, x15.1, x16, x15.2⟩ : LExact) down)
                               (k ((c104 (⟨false, 0, x15.1, x16, x15.2⟩ : LExact) down), 0))
                               (none))
                            (none)))
                      (none))
                   (none))
                (none)))))
    (none)
def round_Sqrt (M : Prims) (a : Nat) (down : Bool) : Nat × Int :=
  cond (!(round_Number M a))
    ((0, 10))
    (cond (M.lt a 0)
       ((0, 12))
       (cond (M.eq a 0)
          ((0, 0))
          (let x5 := round_split M a
           let x8 := round_exact_left M x5 (IntKind.i64.wrap (115 - (round_exact_length M x5)))
           cond (((Int.tmod x8.e 2) : Int) != 0)
             (let x11 := round_exact_left M x8 1
              let x12 := round_root M x11.hi x11.lo
              ((round_exact_to M (⟨false, 0, x12.1, (IntKind.i64.wrap (Int.tdiv x11.e 2)), x12.2⟩ : LExact) down), 0))
             (let x15 := round_root M x8.hi x8.lo
              ((round_exact_to M (⟨false, 0, x15.1, (IntKind.i64.wrap (Int.tdiv x8.e 2)), x15.2⟩ : LExact) down), 0)))))
def round_Sqrt.ok (M : Prims) (a : Nat) (down : Bool) : Bool :=
  cond (round_Number.ok M a)
    (cond (!(round_Number M a))
       (true)
       (cond (M.lt a 0)
          (true)
          (cond (M.eq a 0)
             (true)
             (let x5 := round_split M a
              cond (round_split.ok M a)
                (cond (round_exact_length.ok M x5)
                   (let x7 := IntKind.i64.wrap (115 - (round_exact_length M x5))
                    let x8 := round_exact_left M x5 x7
                    cond (round_exact_left.ok M x5 x7)
                      (cond (((Int.tmod x8.e 2) : Int) != 0)
                         (let x11 := round_exact_left M x8 1
                          cond (round_exact_left.ok M x8 1)
                            (let x12 := round_root M x11.hi x11.lo
                             cond (round_root.ok M x11.hi x11.lo)
                               (cond (round_exact_to.ok M (⟨false, 0, x12.1, (IntKind.i64.wrap (Int.tdiv x11.e 2)), x12.2⟩ : LExact) down)
                                  (true)
                                  (false))
                               (false))
                            (false))
                         (let x15 := round_root M x8.hi x8.lo
                          cond (round_root.ok M x8.hi x8.lo)
                            (cond (round_exact_to.ok M (⟨false, 0, x15.1, (IntKind.i64.wrap (Int.tdiv x8.e 2)), x15.2⟩ : LExact) down)
                               (true)
                               (false))
                            (false)))
                      (false))
                   (false))
                (false)))))
    (false)
def round_Sqrt.fns (c100 : Nat → LExact) (c100ok : Nat → Bool) (c101 : LExact → Int → LExact) (c101ok : LExact → Int → Bool) (c102 : LExact → Int) (c102ok : LExact → Bool) (c104 : LExact → Bool → Nat) (c104ok : LExact → Bool → Bool) (c108 : Int → Int → Int × Bool) (c108ok : Int → Int → Bool) (c80 : Nat → Bool) (c80ok : Nat → Bool) : FuncId → List Value → Option (Bool × Value) := ifId 100 (round_split.ph c100 c100ok) <| ifId 101 (round_exact_left.ph c101 c101ok) <| ifId 102 (round_exact_length.ph c102 c102ok) <| ifId 104 (round_exact_to.ph c104 c104ok) <| ifId 108 (round_root.ph c108 c108ok) <| ifId 80 (round_Number.ph c80 c80ok) <| noFns
theorem round_Sqrt.fnsOK : PureFns Try.prog (round_Sqrt.fns (round_split M0) (round_split.ok M0) (round_exact_left M0) (round_exact_left.ok M0) (round_exact_length M0) (round_exact_length.ok M0) (round_exact_to M0) (round_exact_to.ok M0) (round_root M0) (round_root.ok M0) (round_Number M0) (round_Number.ok M0)) := ifIdOK round_split.phOK <| ifIdOK round_exact_left.phOK <| ifIdOK round_exact_length.phOK <| ifIdOK round_exact_to.phOK <| ifIdOK round_root.phOK <| ifIdOK round_Number.phOK <| noFnsOK
theorem round_Sqrt.ev (M : Prims) (c100 : Nat → LExact) (c100ok : Nat → Bool) (c101 : LExact → Int → LExact) (c101ok : LExact → Int → Bool) (c102 : LExact → Int) (c102ok : LExact → Bool) (c104 : LExact → Bool → Nat) (c104ok : LExact → Bool → Bool) (c108 : Int → Int → Int × Bool) (c108ok : Int → Int → Bool) (c80 : Nat → Bool) (c80ok : Nat → Bool)  (a : Nat) (down : Bool) : evP tab M (round_Sqrt.fns c100 c100ok c101 c101ok c102 c102ok c104 c104ok c108 c108ok c80 c80ok) noLoops 300 Try.f85 [(.float .f64 a), (.bool down)] = round_Sqrt.k M c100 c100ok c101 c101ok c102 c102ok c104 c104ok c108 c108ok c80 c80ok  a down (fun r => some (.tuple ⟨[(.float .f64 r.1), (.int .i64 r.2)]⟩, [])) := by kernel_rfl
theorem round_Sqrt.k_eq (M : Prims) (a : Nat) (down : Bool) (k : Nat × Int → R) : round_Sqrt.ok M a down = true → round_Sqrt.k M (round_split M) (round_split.ok M) (round_exact_left M) (round_exact_left.ok M) (round_exact_length M) (round_exact_length.ok M) (round_exact_to M) (round_exact_to.ok M) (round_root M) (round_root.ok M) (round_Number M) (round_Number.ok M) a down k = k (round_Sqrt M a down) := by
  unfold round_Sqrt.ok round_Sqrt.k round_Sqrt
  exact kL (kC (fun _ => rfl) (kC (fun _ => rfl) (kC (fun _ => rfl) (kL (kL (kL (kC (kL (kL (kL (fun _ => rfl)))) (kL (kL (fun _ => rfl))))))))))
theorem round_Sqrt.call (a : Nat) (down : Bool) (h : round_Sqrt.ok M0 a down = true) : PureOK Try.prog 85 [(.float .f64 a), (.bool down)] (.tuple ⟨[(.float .f64 ((round_Sqrt M0 a down).1)), (.int .i64 ((round_Sqrt M0 a down).2))]⟩) :=
  evP_sound (P := Try.prog) mixed tabOK round_Sqrt.fnsOK Try.func85 rfl (Λ := noLoops) (c := Try.f85.body.getD .skip) rfl (noLoopsOK _) rfl (Nat.zero_le 1) rfl rfl ((round_Sqrt.ev M0 (round_split M0) (round_split.ok M0) (round_exact_left M0) (round_exact_left.ok M0) (round_exact_length M0) (round_exact_length.ok M0) (round_exact_to M0) (round_exact_to.ok M0) (round_root M0) (round_root.ok M0) (round_Number M0) (round_Number.ok M0) a down).trans (round_Sqrt.k_eq M0 a down _ h))
def round_Sqrt.ph (c85 : Nat → Bool → Nat × Int) (c85ok : Nat → Bool → Bool) : Ph := fun args => match args with
  | [.float .f64 a0_, .bool a1_] => some (c85ok a0_ a1_, .tuple ⟨[(.float .f64 ((c85 a0_ a1_).1)), (.int .i64 ((c85 a0_ a1_).2))]⟩)
  | _ => none
theorem round_Sqrt.phOK : PhOK Try.prog 85 (round_Sqrt.ph (round_Sqrt M0) (round_Sqrt.ok M0)) := ⟨by
  intro args v h
  unfold round_Sqrt.ph at h
  split at h
  · rename_i a0_ a1_
    simp only [Option.some.injEq, Prod.mk.injEq] at h
    obtain ⟨hok, rfl⟩ := h
    exact ⟨rfl, rfl, round_Sqrt.call a0_ a1_ hok⟩
  · cases h⟩
def span_Sqrt.k (M : Prims) (c75 : LSpan → Bool) (c75ok : LSpan → Bool) (c76 : LSpan) (c85 : Nat → Bool → Nat × Int) (c85ok : Nat → Bool → Bool) (a : LSpan) (k : LSpan → R) : R :=
  cond (M.lt a.hi 0)
    (k c76)
    (cond (c75ok a)
       (cond (c75 a)
          (k c76)
          (let x5 := M.max a.lo 0
           cond (c85ok x5 true)
             (cond (c85ok a.hi false)
                (k (⟨(c85 x5 true).1, (c85 a.hi false).1⟩ : LSpan))
                (none))
             (none)))
       (none))
def span_Sqrt (M : Prims) (a : LSpan) : LSpan :=
  cond (M.lt a.hi 0)
    ((span_All M))
    (cond (span_Wide M a)
       ((span_All M))
       ((⟨(round_Sqrt M (M.max a.lo 0) true).1, (round_Sqrt M a.hi false).1⟩ : LSpan)))
def span_Sqrt.ok (M : Prims) (a : LSpan) : Bool :=
  cond (M.lt a.hi 0)
    (true)
    (cond (span_Wide.ok M a)
       (cond (span_Wide M a)
          (true)
          (cond (round_Sqrt.ok M (M.max a.lo 0) true)
             (cond (round_Sqrt.ok M a.hi false)
                (true)
                (false))
             (false)))
       (false))
def span_Sqrt.fns (c75 : LSpan → Bool) (c75ok : LSpan → Bool) (c76 : LSpan) (c85 : Nat → Bool → Nat × Int) (c85ok : Nat → Bool → Bool) : FuncId → List Value → Option (Bool × Value) := ifId 75 (span_Wide.ph c75 c75ok) <| ifId 76 (span_All.ph c76) <| ifId 85 (round_Sqrt.ph c85 c85ok) <| noFns
theorem span_Sqrt.fnsOK : PureFns Try.prog (span_Sqrt.fns (span_Wide M0) (span_Wide.ok M0) (span_All M0) (round_Sqrt M0) (round_Sqrt.ok M0)) := ifIdOK span_Wide.phOK <| ifIdOK span_All.phOK <| ifIdOK round_Sqrt.phOK <| noFnsOK
theorem span_Sqrt.ev (M : Prims) (c75 : LSpan → Bool) (c75ok : LSpan → Bool) (c76 : LSpan) (c85 : Nat → Bool → Nat × Int) (c85ok : Nat → Bool → Bool)  (a : LSpan) : evP tab M (span_Sqrt.fns c75 c75ok c76 c85 c85ok) noLoops 300 Try.f47 [a.val] = span_Sqrt.k M c75 c75ok c76 c85 c85ok  a (fun r => some (r.val, [])) := by kernel_rfl
theorem span_Sqrt.k_eq (M : Prims) (a : LSpan) (k : LSpan → R) : span_Sqrt.ok M a = true → span_Sqrt.k M (span_Wide M) (span_Wide.ok M) (span_All M) (round_Sqrt M) (round_Sqrt.ok M) a k = k (span_Sqrt M a) := by
  unfold span_Sqrt.ok span_Sqrt.k span_Sqrt
  exact kC (fun _ => rfl) (kL (kC (fun _ => rfl) (kL (kL (fun _ => rfl)))))
theorem span_Sqrt.call (a : LSpan) (h : span_Sqrt.ok M0 a = true) : PureOK Try.prog 47 [a.val] ((span_Sqrt M0 a).val) :=
  evP_sound (P := Try.prog) mixed tabOK span_Sqrt.fnsOK Try.func47 rfl (Λ := noLoops) (c := Try.f47.body.getD .skip) rfl (noLoopsOK _) rfl (Nat.zero_le 1) rfl rfl ((span_Sqrt.ev M0 (span_Wide M0) (span_Wide.ok M0) (span_All M0) (round_Sqrt M0) (round_Sqrt.ok M0) a).trans (span_Sqrt.k_eq M0 a _ h))
def span_Sqrt.ph (c47 : LSpan → LSpan) (c47ok : LSpan → Bool) : Ph := fun args => match args with
  | [.agg ⟨[.float .f64 a0_0, .float .f64 a0_1]⟩] => some (c47ok (⟨a0_0, a0_1⟩ : LSpan), (c47 (⟨a0_0, a0_1⟩ : LSpan)).val)
  | _ => none
theorem span_Sqrt.phOK : PhOK Try.prog 47 (span_Sqrt.ph (span_Sqrt M0) (span_Sqrt.ok M0)) := ⟨by
  intro args v h
  unfold span_Sqrt.ph at h
  split at h
  · rename_i a0_0 a0_1
    simp only [Option.some.injEq, Prod.mk.injEq] at h
    obtain ⟨hok, rfl⟩ := h
    exact ⟨rfl, rfl, span_Sqrt.call (⟨a0_0, a0_1⟩ : LSpan) hok⟩
  · cases h⟩
def shape_hit.k (_ : Prims) (in_0 : Int) (t : LSpan) (k : LHit → R) : R :=
  cond ((in_0 : Int) != 1)
    (k (⟨in_0, (⟨0, 0⟩ : LSpan), (⟨0, 0⟩ : LSpan), (⟨0, 0⟩ : LSpan)⟩ : LHit))
    (k (⟨1, t, (⟨0, 0⟩ : LSpan), (⟨0, 0⟩ : LSpan)⟩ : LHit))
def shape_hit (_ : Prims) (in_0 : Int) (t : LSpan) : LHit :=
  cond ((in_0 : Int) != 1)
    ((⟨in_0, (⟨0, 0⟩ : LSpan), (⟨0, 0⟩ : LSpan), (⟨0, 0⟩ : LSpan)⟩ : LHit))
    ((⟨1, t, (⟨0, 0⟩ : LSpan), (⟨0, 0⟩ : LSpan)⟩ : LHit))
def shape_hit.fns : FuncId → List Value → Option (Bool × Value) := noFns
theorem shape_hit.fnsOK : PureFns Try.prog shape_hit.fns := noFnsOK
theorem shape_hit.ev (M : Prims)   (in_0 : Int) (t : LSpan) : evP tab M shape_hit.fns noLoops 300 Try.f42 [(.int .i64 in_0), t.val] = shape_hit.k M   in_0 t (fun r => some (r.val, [])) := by kernel_rfl
theorem shape_hit.k_eq (M : Prims) (in_0 : Int) (t : LSpan) (k : LHit → R) : shape_hit.k M  in_0 t k = k (shape_hit M in_0 t) := by
  unfold shape_hit.k shape_hit
  exact pC rfl rfl
theorem shape_hit.call (in_0 : Int) (t : LSpan) : PureOK Try.prog 42 [(.int .i64 in_0), t.val] ((shape_hit M0 in_0 t).val) :=
  evP_sound (P := Try.prog) mixed tabOK shape_hit.fnsOK Try.func42 rfl (Λ := noLoops) (c := Try.f42.body.getD .skip) rfl (noLoopsOK _) rfl (Nat.zero_le 1) rfl rfl ((shape_hit.ev M0  in_0 t).trans (shape_hit.k_eq M0 in_0 t _))
def shape_hit.ph (c42 : Int → LSpan → LHit) : Ph := fun args => match args with
  | [.int .i64 a0_, .agg ⟨[.float .f64 a1_0, .float .f64 a1_1]⟩] => some (true, (c42 a0_ (⟨a1_0, a1_1⟩ : LSpan)).val)
  | _ => none
theorem shape_hit.phOK : PhOK Try.prog 42 (shape_hit.ph (shape_hit M0)) := ⟨by
  intro args v h
  unfold shape_hit.ph at h
  split at h
  · rename_i a0_ a1_0 a1_1
    simp only [Option.some.injEq, Prod.mk.injEq, true_and] at h
    subst h
    exact ⟨rfl, rfl, shape_hit.call a0_ (⟨a1_0, a1_1⟩ : LSpan)⟩
  · cases h⟩
def shape_all_s2.k (_ : Prims) (list0 : Int) (list1 : Int) (k : Int → R) : R :=
  cond ((list0 : Int) == 0)
    (k 0)
    (cond ((list0 : Int) != 1)
       (cond ((list1 : Int) == 0)
          (k 0)
          (cond ((list1 : Int) != 1)
             (k 2)
             (k 2)))
       (cond ((list1 : Int) == 0)
          (k 0)
          (cond ((list1 : Int) != 1)
             (k 2)
             (k 1))))
def shape_all_s2 (_ : Prims) (list0 : Int) (list1 : Int) : Int :=
  cond ((list0 : Int) == 0)
    (0)
    (cond ((list0 : Int) != 1)
       (cond ((list1 : Int) == 0)
          (0)
          (cond ((list1 : Int) != 1)
             (2)
             (2)))
       (cond ((list1 : Int) == 0)
          (0)
          (cond ((list1 : Int) != 1)
             (2)
             (1))))
def shape_all_s2.fns : FuncId → List Value → Option (Bool × Value) := noFns
theorem shape_all_s2.fnsOK : PureFns Try.prog shape_all_s2.fns := noFnsOK
theorem shape_all_s2.ev (M : Prims)   (list0 : Int) (list1 : Int) : evP tab M shape_all_s2.fns noLoops 300 Try.f72 [.tuple ⟨[.int .i64 40, .int .i64 2, .int .i64 2, .int .i64 list0, .int .i64 list1]⟩] = shape_all_s2.k M   list0 list1 (fun r => some ((.int .i64 r), [([.int .i64 list0, .int .i64 list1], 40)])) := by kernel_rfl
theorem shape_all_s2.k_eq (M : Prims) (list0 : Int) (list1 : Int) (k : Int → R) : shape_all_s2.k M  list0 list1 k = k (shape_all_s2 M list0 list1) := by
  unfold shape_all_s2.k shape_all_s2
  exact pC rfl (pC (pC rfl (pC rfl rfl)) (pC rfl (pC rfl rfl)))
theorem shape_all_s2.call (list0 : Int) (list1 : Int) : PureOK Try.prog 72 [.tuple ⟨[.int .i64 40, .int .i64 2, .int .i64 2, .int .i64 list0, .int .i64 list1]⟩] (.int .i64 (shape_all_s2 M0 list0 list1)) :=
  evP_sound (P := Try.prog) mixed tabOK shape_all_s2.fnsOK Try.func72 rfl (Λ := noLoops) (c := Try.f72.body.getD .skip) rfl (noLoopsOK _) rfl (Nat.le_refl 1) rfl rfl ((shape_all_s2.ev M0  list0 list1).trans (shape_all_s2.k_eq M0 list0 list1 _))
def shape_all_s2.ph (c72_2 : Int → Int → Int) : Ph := fun args => match args with
  | [.tuple ⟨[.int .i64 40, .int .i64 2, .int .i64 2, .int .i64 a0_0, .int .i64 a0_1]⟩] => some (true, (.int .i64 (c72_2 a0_0 a0_1)))
  | _ => none
theorem shape_all_s2.phOK : PhOK Try.prog 72 (shape_all_s2.ph (shape_all_s2 M0)) := ⟨by
  intro args v h
  unfold shape_all_s2.ph at h
  split at h
  · rename_i a0_0 a0_1
    simp only [Option.some.injEq, Prod.mk.injEq, true_and] at h
    subst h
    exact ⟨rfl, rfl, shape_all_s2.call a0_0 a0_1⟩
  · cases h⟩
end Go.Lan
