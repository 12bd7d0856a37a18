import Derived.Test.YtpgjihkaocahbaaGreatGLb3Lb4
namespace Go.Lan
open Go.Proofs
def shape_triangle.k (_ : Prims) (c131_4 : Int → Int → Int → Int → Int) (c129 : LV3 → LV3 → LSpan) (c129ok : LV3 → LV3 → Bool) (c130 : LSpan → Nat × Int) (c132 : LSpan → Int) (c133 : LSpan → Int) (c41 : LV3 → LV3 → LV3) (c41ok : LV3 → LV3 → Bool) (c42 : LShape → LV3 × LV3) (c42ok : LShape → Bool) (c43 : LV3 → LV3 → LV3) (c43ok : LV3 → LV3 → Bool) (c49 : LSpan → LSpan → LSpan) (c49ok : LSpan → LSpan → Bool) (c50 : Nat → LSpan) (c50ok : Nat → Bool) (c54 : LSpan → LSpan → LSpan) (c54ok : LSpan → LSpan → Bool) (c62 : LSpan → LSpan → LSpan) (c62ok : LSpan → LSpan → Bool) (c68 : LSpan → LSpan → LSpan) (c68ok : LSpan → LSpan → Bool) (s : LShape) (r : LRay) (k : LHit → R) : R :=
  let x1 := c42 s
  cond (c42ok s)
    (let x2 := c43 r.d x1.2
     cond (c43ok r.d x1.2)
       (let x3 := c129 x1.1 x2
        cond (c129ok x1.1 x2)
          (let x4 := c130 x3
           cond ((x4.2 : Int) != 1)
             (k (⟨x4.2, (⟨0, 0⟩ : LSpan), (⟨0, 0⟩ : LSpan), (⟨0, 0⟩ : LSpan)⟩ : LHit))
             (let x6 := c41 r.o s.p.p0
              cond (c41ok r.o s.p.p0)
                (let x7 := c43 x6 x1.1
                 cond (c43ok x6 x1.1)
                   (let x8 := c50 x4.1
                    cond (c50ok x4.1)
                      (let x9 := c49 x3 x8
                       cond (c49ok x3 x8)
                         (let x10 := c129 x6 x2
                          cond (c129ok x6 x2)
                            (let x11 := c49 x10 x8
                             cond (c49ok x10 x8)
                               (let x12 := c129 r.d x7
                                cond (c129ok r.d x7)
                                  (let x13 := c49 x12 x8
                                   cond (c49ok x12 x8)
                                     (let x14 := c129 x1.2 x7
                                      cond (c129ok x1.2 x7)
                                        (let x15 := c49 x14 x8
                                         cond (c49ok x14 x8)
                                           (let x18 := c62 x11 x13
                                            cond (c62ok x11 x13)
                                              (cond (c54ok x9 x18)
                                                 (let x22 := c131_4 (c132 x11) (c132 x13) (c132 (c54 x9 x18)) (c133 x15)
                                                  cond ((x22 : Int) != 1)
                                                    (k (⟨x22, (⟨0, 0⟩ : LSpan), (⟨0, 0⟩ : LSpan), (⟨0, 0⟩ : LSpan)⟩ : LHit))
                                                    (cond (c68ok x15 x9)
                                                       (cond (c68ok x11 x9)
                                                          (cond (c68ok x13 x9)
                                                             (k (⟨1, (c68 x15 x9), (c68 x11 x9), (c68 x13 x9)⟩ : LHit))
                                                             (none))
                                                          (none))
                                                       (none)))
                                                 (none))
                                              (none))
                                           (none))
                                        (none))
                                     (none))
                                  (none))
                               (none))
                            (none))
                         (none))
                      (none))
                   (none))
                (none)))
          (none))
       (none))
    (none)
def shape_triangle (M : Prims) (s : LShape) (r : LRay) : LHit :=
  let x1 := shape_edges M s
  let x2 := vec_Cross M r.d x1.2
  let x3 := vec_Dot M x1.1 x2
  let x4 := shape_side M x3
  cond ((x4.2 : Int) != 1)
    ((⟨x4.2, (⟨0, 0⟩ : LSpan), (⟨0, 0⟩ : LSpan), (⟨0, 0⟩ : LSpan)⟩ : LHit))
    (let x6 := vec_Sub M r.o s.p.p0
     let x7 := vec_Cross M x6 x1.1
     let x8 := span_Of M x4.1
     let x9 := span_Mul M x3 x8
     let x11 := span_Mul M (vec_Dot M x6 x2) x8
     let x13 := span_Mul M (vec_Dot M r.d x7) x8
     let x15 := span_Mul M (vec_Dot M x1.2 x7) x8
     let x22 := shape_all_s4 M (shape_atLeast M x11) (shape_atLeast M x13) (shape_atLeast M (span_Sub M x9 (span_Add M x11 x13))) (span_Positive M x15)
     cond ((x22 : Int) != 1)
       ((⟨x22, (⟨0, 0⟩ : LSpan), (⟨0, 0⟩ : LSpan), (⟨0, 0⟩ : LSpan)⟩ : LHit))
       ((⟨1, (span_Div M x15 x9), (span_Div M x11 x9), (span_Div M x13 x9)⟩ : LHit)))
def shape_triangle.ok (M : Prims) (s : LShape) (r : LRay) : Bool :=
  let x1 := shape_edges M s
  cond (shape_edges.ok M s)
    (let x2 := vec_Cross M r.d x1.2
     cond (vec_Cross.ok M r.d x1.2)
       (let x3 := vec_Dot M x1.1 x2
        cond (vec_Dot.ok M x1.1 x2)
          (let x4 := shape_side M x3
           cond ((x4.2 : Int) != 1)
             (true)
             (let x6 := vec_Sub M r.o s.p.p0
              cond (vec_Sub.ok M r.o s.p.p0)
                (let x7 := vec_Cross M x6 x1.1
                 cond (vec_Cross.ok M x6 x1.1)
                   (let x8 := span_Of M x4.1
                    cond (span_Of.ok M x4.1)
                      (let x9 := span_Mul M x3 x8
                       cond (span_Mul.ok M x3 x8)
                         (let x10 := vec_Dot M x6 x2
                          cond (vec_Dot.ok M x6 x2)
                            (let x11 := span_Mul M x10 x8
                             cond (span_Mul.ok M x10 x8)
                               (let x12 := vec_Dot M r.d x7
                                cond (vec_Dot.ok M r.d x7)
                                  (let x13 := span_Mul M x12 x8
                                   cond (span_Mul.ok M x12 x8)
                                     (let x14 := vec_Dot M x1.2 x7
                                      cond (vec_Dot.ok M x1.2 x7)
                                        (let x15 := span_Mul M x14 x8
                                         cond (span_Mul.ok M x14 x8)
                                           (let x18 := span_Add M x11 x13
                                            cond (span_Add.ok M x11 x13)
                                              (cond (span_Sub.ok M x9 x18)
                                                 (cond (((shape_all_s4 M (shape_atLeast M x11) (shape_atLeast M x13) (shape_atLeast M (span_Sub M x9 x18)) (span_Positive M x15)) : Int) != 1)
                                                    (true)
                                                    (cond (span_Div.ok M x15 x9)
                                                       (cond (span_Div.ok M x11 x9)
                                                          (cond (span_Div.ok M x13 x9)
                                                             (true)
                                                             (false))
                                                          (false))
                                                       (false)))
                                                 (false))
                                              (false))
                                           (false))
                                        (false))
                                     (false))
                                  (false))
                               (false))
                            (false))
                         (false))
                      (false))
                   (false))
                (false)))
          (false))
       (false))
    (false)
def shape_triangle.fns (c131_4 : Int → Int → Int → Int → Int) (c129 : LV3 → LV3 → LSpan) (c129ok : LV3 → LV3 → Bool) (c130 : LSpan → Nat × Int) (c132 : LSpan → Int) (c133 : LSpan → Int) (c41 : LV3 → LV3 → LV3) (c41ok : LV3 → LV3 → Bool) (c42 : LShape → LV3 × LV3) (c42ok : LShape → Bool) (c43 : LV3 → LV3 → LV3) (c43ok : LV3 → LV3 → Bool) (c49 : LSpan → LSpan → LSpan) (c49ok : LSpan → LSpan → Bool) (c50 : Nat → LSpan) (c50ok : Nat → Bool) (c54 : LSpan → LSpan → LSpan) (c54ok : LSpan → LSpan → Bool) (c62 : LSpan → LSpan → LSpan) (c62ok : LSpan → LSpan → Bool) (c68 : LSpan → LSpan → LSpan) (c68ok : LSpan → LSpan → Bool) : FuncId → List Value → Option (Bool × Value) := ifId 131 (shape_all_s4.ph c131_4) <| ifId 129 (vec_Dot.ph c129 c129ok) <| ifId 130 (shape_side.ph c130) <| ifId 132 (shape_atLeast.ph c132) <| ifId 133 (span_Positive.ph c133) <| ifId 41 (vec_Sub.ph c41 c41ok) <| ifId 42 (shape_edges.ph c42 c42ok) <| ifId 43 (vec_Cross.ph c43 c43ok) <| ifId 49 (span_Mul.ph c49 c49ok) <| ifId 50 (span_Of.ph c50 c50ok) <| ifId 54 (span_Sub.ph c54 c54ok) <| ifId 62 (span_Add.ph c62 c62ok) <| ifId 68 (span_Div.ph c68 c68ok) <| noFns
theorem shape_triangle.fnsOK : PureFns Tryz.prog (shape_triangle.fns (shape_all_s4 M0) (vec_Dot M0) (vec_Dot.ok M0) (shape_side M0) (shape_atLeast M0) (span_Positive M0) (vec_Sub M0) (vec_Sub.ok M0) (shape_edges M0) (shape_edges.ok M0) (vec_Cross M0) (vec_Cross.ok M0) (span_Mul M0) (span_Mul.ok M0) (span_Of M0) (span_Of.ok M0) (span_Sub M0) (span_Sub.ok M0) (span_Add M0) (span_Add.ok M0) (span_Div M0) (span_Div.ok M0)) := ifIdOK shape_all_s4.phOK <| ifIdOK vec_Dot.phOK <| ifIdOK shape_side.phOK <| ifIdOK shape_atLeast.phOK <| ifIdOK span_Positive.phOK <| ifIdOK vec_Sub.phOK <| ifIdOK shape_edges.phOK <| ifIdOK vec_Cross.phOK <| ifIdOK span_Mul.phOK <| ifIdOK span_Of.phOK <| ifIdOK span_Sub.phOK <| ifIdOK span_Add.phOK <| ifIdOK span_Div.phOK <| noFnsOK
theorem shape_triangle.ev (M : Prims) (c131_4 : Int → Int → Int → Int → Int) (c129 : LV3 → LV3 → LSpan) (c129ok : LV3 → LV3 → Bool) (c130 : LSpan → Nat × Int) (c132 : LSpan → Int) (c133 : LSpan → Int) (c41 : LV3 → LV3 → LV3) (c41ok : LV3 → LV3 → Bool) (c42 : LShape → LV3 × LV3) (c42ok : LShape → Bool) (c43 : LV3 → LV3 → LV3) (c43ok : LV3 → LV3 → Bool) (c49 : LSpan → LSpan → LSpan) (c49ok : LSpan → LSpan → Bool) (c50 : Nat → LSpan) (c50ok : Nat → Bool) (c54 : LSpan → LSpan → LSpan) (c54ok : LSpan → LSpan → Bool) (c62 : LSpan → LSpan → LSpan) (c62ok : LSpan → LSpan → Bool) (c68 : LSpan → LSpan → LSpan) (c68ok : LSpan → LSpan → Bool)  (s : LShape) (r : LRay) : evP tab M (shape_triangle.fns c131_4 c129 c129ok c130 c132 c133 c41 c41ok c42 c42ok c43 c43ok c49 c49ok c50 c50ok c54 c54ok c62 c62ok c68 c68ok) noLoops 300 Tryz.f86 [s.val, r.val] = shape_triangle.k M c131_4 c129 c129ok c130 c132 c133 c41 c41ok c42 c42ok c43 c43ok c49 c49ok c50 c50ok c54 c54ok c62 c62ok c68 c68ok  s r (fun r => some (r.val, [])) := by kernel_rfl
theorem shape_triangle.k_eq (M : Prims) (s : LShape) (r : LRay) (k : LHit → R) : shape_triangle.ok M s r = true → shape_triangle.k M (shape_all_s4 M) (vec_Dot M) (vec_Dot.ok M) (shape_side M) (shape_atLeast M) (span_Positive M) (vec_Sub M) (vec_Sub.ok M) (shape_edges M) (shape_edges.ok M) (vec_Cross M) (vec_Cross.ok M) (span_Mul M) (span_Mul.ok M) (span_Of M) (span_Of.ok M) (span_Sub M) (span_Sub.ok M) (span_Add M) (span_Add.ok M) (span_Div M) (span_Div.ok M) s r k = k (shape_triangle M s r) := by
  unfold shape_triangle.ok shape_triangle.k shape_triangle
  exact kL (kL (kL (kC (fun _ => rfl) (kL (kL (kL (kL (kL (kL (kL (kL (kL (kL (kL (kL (kC (fun _ => rfl) (kL (kL (kL (fun _ => rfl))))))))))))))))))))
theorem shape_triangle.call (s : LShape) (r : LRay) (h : shape_triangle.ok M0 s r = true) : PureOK Tryz.prog 86 [s.val, r.val] ((shape_triangle M0 s r).val) :=
  evP_sound (P := Tryz.prog) mixed tabOK shape_triangle.fnsOK Tryz.func86 rfl (Λ := noLoops) (c := Tryz.f86.body.getD .skip) rfl (noLoopsOK _) rfl (Nat.zero_le 1) rfl rfl ((shape_triangle.ev M0 (shape_all_s4 M0) (vec_Dot M0) (vec_Dot.ok M0) (shape_side M0) (shape_atLeast M0) (span_Positive M0) (vec_Sub M0) (vec_Sub.ok M0) (shape_edges M0) (shape_edges.ok M0) (vec_Cross M0) (vec_Cross.ok M0) (span_Mul M0) (span_Mul.ok M0) (span_Of M0) (span_Of.ok M0) (span_Sub M0) (span_Sub.ok M0) (span_Add M0) (span_Add.ok M0) (span_Div M0) (span_Div.ok M0) s r).trans (shape_triangle.k_eq M0 s r _ h))
def shape_triangle.ph (c86 : LShape → LRay → LHit) (c86ok : LShape → LRay → Bool) : Ph := fun args => match args with
  | [.agg ⟨[.int .i64 a0_0, .float .f64 a0_1, .float .f64 a0_2, .float .f64 a0_3, .float .f64 a0_4, .float .f64 a0_5, .float .f64 a0_6, .float .f64 a0_7, .float .f64 a0_8, .float .f64 a0_9, .float .f64 a0_10, .float .f64 a0_11, .float .f64 a0_12, .float .f64 a0_13, .float .f64 a0_14, .float .f64 a0_15, .float .f64 a0_16, .float .f64 a0_17, .float .f64 a0_18, .float .f64 a0_19, .float .f64 a0_20]⟩, .agg ⟨[.float .f64 a1_0, .float .f64 a1_1, .float .f64 a1_2, .float .f64 a1_3, .float .f64 a1_4, .float .f64 a1_5, .float .f64 a1_6, .float .f64 a1_7, .float .f64 a1_8, .float .f64 a1_9, .float .f64 a1_10, .float .f64 a1_11]⟩] => some (c86ok (⟨a0_0, ⟨⟨⟨a0_1, a0_2⟩, ⟨a0_3, a0_4⟩, ⟨a0_5, a0_6⟩⟩, ⟨⟨a0_7, a0_8⟩, ⟨a0_9, a0_10⟩, ⟨a0_11, a0_12⟩⟩, ⟨⟨a0_13, a0_14⟩, ⟨a0_15, a0_16⟩, ⟨a0_17, a0_18⟩⟩⟩, ⟨a0_19, a0_20⟩⟩ : LShape) (⟨⟨⟨a1_0, a1_1⟩, ⟨a1_2, a1_3⟩, ⟨a1_4, a1_5⟩⟩, ⟨⟨a1_6, a1_7⟩, ⟨a1_8, a1_9⟩, ⟨a1_10, a1_11⟩⟩⟩ : LRay), (c86 (⟨a0_0, ⟨⟨⟨a0_1, a0_2⟩, ⟨a0_3, a0_4⟩, ⟨a0_5, a0_6⟩⟩, ⟨⟨a0_7, a0_8⟩, ⟨a0_9, a0_10⟩, ⟨a0_11, a0_12⟩⟩, ⟨⟨a0_13, a0_14⟩, ⟨a0_15, a0_16⟩, ⟨a0_17, a0_18⟩⟩⟩, ⟨a0_19, a0_20⟩⟩ : LShape) (⟨⟨⟨a1_0, a1_1⟩, ⟨a1_2, a1_3⟩, ⟨a1_4, a1_5⟩⟩, ⟨⟨a1_6, a1_7⟩, ⟨a1_8, a1_9⟩, ⟨a1_10, a1_11⟩⟩⟩ : LRay)).val)
  | _ => none
theorem shape_triangle.phOK : PhOK Tryz.prog 86 (shape_triangle.ph (shape_triangle M0) (shape_triangle.ok M0)) := ⟨by
  intro args v h
  unfold shape_triangle.ph at h
  split at h
  · rename_i a0_0 a0_1 a0_2 a0_3 a0_4 a0_5 a0_6 a0_7 a0_8 a0_9 a0_10 a0_11 a0_12 a0_13 a0_14 a0_15 a0_16 a0_17 a0_18 a0_19 a0_20 a1_0 a1_1 a1_2 a1_3 a1_4 a1_5 a1_6 a1_7 a1_8 a1_9 a1_10 a1_11
    simp only [Option.some.injEq, Prod.mk.injEq] at h
    obtain ⟨hok, rfl⟩ := h
    exact ⟨rfl, rfl, shape_triangle.call (⟨a0_0, ⟨⟨⟨a0_1, a0_2⟩, ⟨a0_3, a0_4⟩, ⟨a0_5, a0_6⟩⟩, ⟨⟨a0_7, a0_8⟩, ⟨a0_9, a0_10⟩, ⟨a0_11, a0_12⟩⟩, ⟨⟨a0_13, a0_14⟩, ⟨a0_15, a0_16⟩, ⟨a0_17, a0_18⟩⟩⟩, ⟨a0_19, a0_20⟩⟩ : LShape) (⟨⟨⟨a1_0, a1_1⟩, ⟨a1_2, a1_3⟩, ⟨a1_4, a1_5⟩⟩, ⟨⟨a1_6, a1_7⟩, ⟨a1_8, a1_9⟩, ⟨a1_10, a1_11⟩⟩⟩ : LRay) hok⟩
  · cases h⟩
def span_Sqr.k (M : Prims) (c49 : LSpan → LSpan → LSpan) (c49ok : LSpan → LSpan → Bool) (c67 : Int → Nat) (c93 : LSpan → Bool) (c93ok : LSpan → Bool) (a : LSpan) (k : LSpan → R) : R :=
  cond (c93ok a)
    (cond (c93 a)
       (k (⟨0, (c67 1)⟩ : LSpan))
       (let x3 := c49 a a
        cond (c49ok a a)
          (cond (M.le a.lo 0)
             (cond (M.ge a.hi 0)
                (k (⟨0, x3.hi⟩ : LSpan))
                (k x3))
             (k x3))
          (none)))
    (none)
def span_Sqr (M : Prims) (a : LSpan) : LSpan :=
  cond (span_Wide M a)
    ((⟨0, (math_Inf M 1)⟩ : LSpan))
    (let x3 := span_Mul M a a
     cond (M.le a.lo 0)
       (cond (M.ge a.hi 0)
          ((⟨0, x3.hi⟩ : LSpan))
          (x3))
       (x3))
def span_Sqr.ok (M : Prims) (a : LSpan) : Bool :=
  cond (span_Wide.ok M a)
    (cond (span_Wide M a)
       (true)
       (cond (span_Mul.ok M a a)
          (true)
          (false)))
    (false)
def span_Sqr.fns (c49 : LSpan → LSpan → LSpan) (c49ok : LSpan → LSpan → Bool) (c67 : Int → Nat) (c93 : LSpan → Bool) (c93ok : LSpan → Bool) : FuncId → List Value → Option (Bool × Value) := ifId 49 (span_Mul.ph c49 c49ok) <| ifId 67 (math_Inf.ph c67) <| ifId 93 (span_Wide.ph c93 c93ok) <| noFns
theorem span_Sqr.fnsOK : PureFns Tryz.prog (span_Sqr.fns (span_Mul M0) (span_Mul.ok M0) (math_Inf M0) (span_Wide M0) (span_Wide.ok M0)) := ifIdOK span_Mul.phOK <| ifIdOK math_Inf.phOK <| ifIdOK span_Wide.phOK <| noFnsOK
theorem span_Sqr.ev (M : Prims) (c49 : LSpan → LSpan → LSpan) (c49ok : LSpan → LSpan → Bool) (c67 : Int → Nat) (c93 : LSpan → Bool) (c93ok : LSpan → Bool)  (a : LSpan) : evP tab M (span_Sqr.fns c49 c49ok c67 c93 c93ok) noLoops 300 Tryz.f135 [a.val] = span_Sqr.k M c49 c49ok c67 c93 c93ok  a (fun r => some (r.val, [])) := by kernel_rfl
theorem span_Sqr.k_eq (M : Prims) (a : LSpan) (k : LSpan → R) : span_Sqr.ok M a = true → span_Sqr.k M (span_Mul M) (span_Mul.ok M) (math_Inf M) (span_Wide M) (span_Wide.ok M) a k = k (span_Sqr M a) := by
  unfold span_Sqr.ok span_Sqr.k span_Sqr
  exact kL (kC (fun _ => rfl) (kL (fun _ => pC (pC rfl rfl) rfl)))
theorem span_Sqr.call (a : LSpan) (h : span_Sqr.ok M0 a = true) : PureOK Tryz.prog 135 [a.val] ((span_Sqr M0 a).val) :=
  evP_sound (P := Tryz.prog) mixed tabOK span_Sqr.fnsOK Tryz.func135 rfl (Λ := noLoops) (c := Tryz.f135.body.getD .skip) rfl (noLoopsOK _) rfl (Nat.zero_le 1) rfl rfl ((span_Sqr.ev M0 (span_Mul M0) (span_Mul.ok M0) (math_Inf M0) (span_Wide M0) (span_Wide.ok M0) a).trans (span_Sqr.k_eq M0 a _ h))
def span_Sqr.ph (c135 : LSpan → LSpan) (c135ok : LSpan → Bool) : Ph := fun args => match args with
  | [.agg ⟨[.float .f64 a0_0, .float .f64 a0_1]⟩] => some (c135ok (⟨a0_0, a0_1⟩ : LSpan), (c135 (⟨a0_0, a0_1⟩ : LSpan)).val)
  | _ => none
theorem span_Sqr.phOK : PhOK Tryz.prog 135 (span_Sqr.ph (span_Sqr M0) (span_Sqr.ok M0)) := ⟨by
  intro args v h
  unfold span_Sqr.ph at h
  split at h
  · rename_i a0_0 a0_1
    simp only [Option.some.injEq, Prod.mk.injEq] at h
    obtain ⟨hok, rfl⟩ := h
    exact ⟨rfl, rfl, span_Sqr.call (⟨a0_0, a0_1⟩ : LSpan) hok⟩
  · cases h⟩
def vec_Sqr.k (_ : Prims) (c135 : LSpan → LSpan) (c135ok : LSpan → Bool) (c62 : LSpan → LSpan → LSpan) (c62ok : LSpan → LSpan → Bool) (a : LV3) (k : LSpan → R) : R :=
  let x1 := c135 a.p0
  cond (c135ok a.p0)
    (let x2 := c135 a.p1
     cond (c135ok a.p1)
       (let x3 := c62 x1 x2
        cond (c62ok x1 x2)
          (let x4 := c135 a.p2
           cond (c135ok a.p2)
             (cond (c62ok x3 x4)
                (k (c62 x3 x4))
                (none))
             (none))
          (none))
       (none))
    (none)
def vec_Sqr (M : Prims) (a : LV3) : LSpan :=
  (span_Add M (span_Add M (span_Sqr M a.p0) (span_Sqr M a.p1)) (span_Sqr M a.p2))
def vec_Sqr.ok (M : Prims) (a : LV3) : Bool :=
  let x1 := span_Sqr M a.p0
  cond (span_Sqr.ok M a.p0)
    (let x2 := span_Sqr M a.p1
     cond (span_Sqr.ok M a.p1)
       (cond (span_Add.ok M x1 x2)
          (cond (span_Sqr.ok M a.p2)
             (cond (span_Add.ok M (span_Add M x1 x2) (span_Sqr M a.p2))
                (true)
                (false))
             (false))
          (false))
       (false))
    (false)
def vec_Sqr.fns (c135 : LSpan → LSpan) (c135ok : LSpan → Bool) (c62 : LSpan → LSpan → LSpan) (c62ok : LSpan → LSpan → Bool) : FuncId → List Value → Option (Bool × Value) := ifId 135 (span_Sqr.ph c135 c135ok) <| ifId 62 (span_Add.ph c62 c62ok) <| noFns
theorem vec_Sqr.fnsOK : PureFns Tryz.prog (vec_Sqr.fns (span_Sqr M0) (span_Sqr.ok M0) (span_Add M0) (span_Add.ok M0)) := ifIdOK span_Sqr.phOK <| ifIdOK span_Add.phOK <| noFnsOK
theorem vec_Sqr.ev (M : Prims) (c135 : LSpan → LSpan) (c135ok : LSpan → Bool) (c62 : LSpan → LSpan → LSpan) (c62ok : LSpan → LSpan → Bool)  (a : LV3) : evP tab M (vec_Sqr.fns c135 c135ok c62 c62ok) noLoops 300 Tryz.f88 [a.val] = vec_Sqr.k M c135 c135ok c62 c62ok  a (fun r => some (r.val, [])) := by kernel_rfl
theorem vec_Sqr.k_eq (M : Prims) (a : LV3) (k : LSpan → R) : vec_Sqr.ok M a = true → vec_Sqr.k M (span_Sqr M) (span_Sqr.ok M) (span_Add M) (span_Add.ok M) a k = k (vec_Sqr M a) := by
  unfold vec_Sqr.ok vec_Sqr.k vec_Sqr
  exact kL (kL (kL (kL (kL (fun _ => rfl)))))
theorem vec_Sqr.call (a : LV3) (h : vec_Sqr.ok M0 a = true) : PureOK Tryz.prog 88 [a.val] ((vec_Sqr M0 a).val) :=
  evP_sound (P := Tryz.prog) mixed tabOK vec_Sqr.fnsOK Tryz.func88 rfl (Λ := noLoops) (c := Tryz.f88.body.getD .skip) rfl (noLoopsOK _) rfl (Nat.zero_le 1) rfl rfl ((vec_Sqr.ev M0 (span_Sqr M0) (span_Sqr.ok M0) (span_Add M0) (span_Add.ok M0) a).trans (vec_Sqr.k_eq M0 a _ h))
def vec_Sqr.ph (c88 : LV3 → LSpan) (c88ok : LV3 → Bool) : Ph := fun args => match args with
  | [.agg ⟨[.float .f64 a0_0, .float .f64 a0_1, .float .f64 a0_2, .float .f64 a0_3, .float .f64 a0_4, .float .f64 a0_5]⟩] => some (c88ok (⟨⟨a0_0, a0_1⟩, ⟨a0_2, a0_3⟩, ⟨a0_4, a0_5⟩⟩ : LV3), (c88 (⟨⟨a0_0, a0_1⟩, ⟨a0_2, a0_3⟩, ⟨a0_4, a0_5⟩⟩ : LV3)).val)
  | _ => none
theorem vec_Sqr.phOK : PhOK Tryz.prog 88 (vec_Sqr.ph (vec_Sqr M0) (vec_Sqr.ok M0)) := ⟨by
  intro args v h
  unfold vec_Sqr.ph at h
  split at h
  · rename_i a0_0 a0_1 a0_2 a0_3 a0_4 a0_5
    simp only [Option.some.injEq, Prod.mk.injEq] at h
    obtain ⟨hok, rfl⟩ := h
    exact ⟨rfl, rfl, vec_Sqr.call (⟨⟨a0_0, a0_1⟩, ⟨a0_2, a0_3⟩, ⟨a0_4, a0_5⟩⟩ : LV3) hok⟩
  · cases h⟩
def shape_quad.k (_ : Prims) (c129 : LV3 → LV3 → LSpan) (c129ok : LV3 → LV3 → Bool) (c135 : LSpan → LSpan) (c135ok : LSpan → Bool) (c41 : LV3 → LV3 → LV3) (c41ok : LV3 → LV3 → Bool) (c54 : LSpan → LSpan → LSpan) (c54ok : LSpan → LSpan → Bool) (c88 : LV3 → LSpan) (c88ok : LV3 → Bool) (s : LShape) (r : LRay) (k : LSpan × LSpan × LSpan → R) : R :=
  let x1 := c41 r.o s.p.p0
  cond (c41ok r.o s.p.p0)
    (cond (c88ok r.d)
       (cond (c129ok x1 r.d)
          (let x4 := c88 x1
           cond (c88ok x1)
             (let x5 := c135 s.r
              cond (c135ok s.r)
                (cond (c54ok x4 x5)
                   (k ((c88 r.d), (c129 x1 r.d), (c54 x4 x5)))
                   (none))
                (none))
             (none))
          (none))
       (none))
    (none)
def shape_quad (M : Prims) (s : LShape) (r : LRay) : LSpan × LSpan × LSpan :=
  let x1 := vec_Sub M r.o s.p.p0
  ((vec_Sqr M r.d), (vec_Dot M x1 r.d), (span_Sub M (vec_Sqr M x1) (span_Sqr M s.r)))
def shape_quad.ok (M : Prims) (s : LShape) (r : LRay) : Bool :=
  let x1 := vec_Sub M r.o s.p.p0
  cond (vec_Sub.ok M r.o s.p.p0)
    (cond (vec_Sqr.ok M r.d)
       (cond (vec_Dot.ok M x1 r.d)
          (cond (vec_Sqr.ok M x1)
             (cond (span_Sqr.ok M s.r)
                (cond (span_Sub.ok M (vec_Sqr M x1) (span_Sqr M s.r))
                   (true)
                   (false))
                (false))
             (false))
          (false))
       (false))
    (false)
def shape_quad.fns (c129 : LV3 → LV3 → LSpan) (c129ok : LV3 → LV3 → Bool) (c135 : LSpan → LSpan) (c135ok : LSpan → Bool) (c41 : LV3 → LV3 → LV3) (c41ok : LV3 → LV3 → Bool) (c54 : LSpan → LSpan → LSpan) (c54ok : LSpan → LSpan → Bool) (c88 : LV3 → LSpan) (c88ok : LV3 → Bool) : FuncId → List Value → Option (Bool × Value) := ifId 129 (vec_Dot.ph c129 c129ok) <| ifId 135 (span_Sqr.ph c135 c135ok) <| ifId 41 (vec_Sub.ph c41 c41ok) <| ifId 54 (span_Sub.ph c54 c54ok) <| ifId 88 (vec_Sqr.ph c88 c88ok) <| noFns
theorem shape_quad.fnsOK : PureFns Tryz.prog (shape_quad.fns (vec_Dot M0) (vec_Dot.ok M0) (span_Sqr M0) (span_Sqr.ok M0) (vec_Sub M0) (vec_Sub.ok M0) (span_Sub M0) (span_Sub.ok M0) (vec_Sqr M0) (vec_Sqr.ok M0)) := ifIdOK vec_Dot.phOK <| ifIdOK span_Sqr.phOK <| ifIdOK vec_Sub.phOK <| ifIdOK span_Sub.phOK <| ifIdOK vec_Sqr.phOK <| noFnsOK
theorem shape_quad.ev (M : Prims) (c129 : LV3 → LV3 → LSpan) (c129ok : LV3 → LV3 → Bool) (c135 : LSpan → LSpan) (c135ok : LSpan → Bool) (c41 : LV3 → LV3 → LV3) (c41ok : LV3 → LV3 → Bool) (c54 : LSpan → LSpan → LSpan) (c54ok : LSpan → LSpan → Bool) (c88 : LV3 → LSpan) (c88ok : LV3 → Bool)  (s : LShape) (r : LRay) : evP tab M (shape_quad.fns c129 c129ok c135 c135ok c41 c41ok c54 c54ok c88 c88ok) noLoops 300 Tryz.f134 [s.val, r.val] = shape_quad.k M c129 c129ok c135 c135ok c41 c41ok c54 c54ok c88 c88ok  s r (fun r => some (.tuple ⟨[r.1.val, r.2.1.val, r.2.2.val]⟩, [])) := by kernel_rfl
theorem shape_quad.k_eq (M : Prims) (s : LShape) (r : LRay) (k : LSpan × LSpan × LSpan → R) : shape_quad.ok M s r = true → shape_quad.k M (vec_Dot M) (vec_Dot.ok M) (span_Sqr M) (span_Sqr.ok M) (vec_Sub M) (vec_Sub.ok M) (span_Sub M) (span_Sub.ok M) (vec_Sqr M) (vec_Sqr.ok M) s r k = k (shape_quad M s r) := by
  unfold shape_quad.ok shape_quad.k shape_quad
  exact kL (kL (kL (kL (kL (kL (fun _ => rfl))))))
theorem shape_quad.call (s : LShape) (r : LRay) (h : shape_quad.ok M0 s r = true) : PureOK Tryz.prog 134 [s.val, r.val] (.tuple ⟨[((shape_quad M0 s r).1).val, ((shape_quad M0 s r).2.1).val, ((shape_quad M0 s r).2.2).val]⟩) :=
  evP_sound (P := Tryz.prog) mixed tabOK shape_quad.fnsOK Tryz.func134 rfl (Λ := noLoops) (c := Tryz.f134.body.getD .skip) rfl (noLoopsOK _) rfl (Nat.zero_le 1) rfl rfl ((shape_quad.ev M0 (vec_Dot M0) (vec_Dot.ok M0) (span_Sqr M0) (span_Sqr.ok M0) (vec_Sub M0) (vec_Sub.ok M0) (span_Sub M0) (span_Sub.ok M0) (vec_Sqr M0) (vec_Sqr.ok M0) s r).trans (shape_quad.k_eq M0 s r _ h))
def shape_quad.ph (c134 : LShape → LRay → LSpan × LSpan × LSpan) (c134ok : LShape → LRay → Bool) : Ph := fun args => match args with
  | [.agg ⟨[.int .i64 a0_0, .float .f64 a0_1, .float .f64 a0_2, .float .f64 a0_3, .float .f64 a0_4, .float .f64 a0_5, .float .f64 a0_6, .float .f64 a0_7, .float .f64 a0_8, .float .f64 a0_9, .float .f64 a0_10, .float .f64 a0_11, .float .f64 a0_12, .float .f64 a0_13, .float .f64 a0_14, .float .f64 a0_15, .float .f64 a0_16, .float .f64 a0_17, .float .f64 a0_18, .float .f64 a0_19, .float .f64 a0_20]⟩, .agg ⟨[.float .f64 a1_0, .float .f64 a1_1, .float .f64 a1_2, .float .f64 a1_3, .float .f64 a1_4, .float .f64 a1_5, .float .f64 a1_6, .float .f64 a1_7, .float .f64 a1_8, .float .f64 a1_9, .float .f64 a1_10, .float .f64 a1_11]⟩] => some (c134ok (⟨a0_0, ⟨⟨⟨a0_1, a0_2⟩, ⟨a0_3, a0_4⟩, ⟨a0_5, a0_6⟩⟩, ⟨⟨a0_7, a0_8⟩, ⟨a0_9, a0_10⟩, ⟨a0_11, a0_12⟩⟩, ⟨⟨a0_13, a0_14⟩, ⟨a0_15, a0_16⟩, ⟨a0_17, a0_18⟩⟩⟩, ⟨a0_19, a0_20⟩⟩ : LShape) (⟨⟨⟨a1_0, a1_1⟩, ⟨a1_2, a1_3⟩, ⟨a1_4, a1_5⟩⟩, ⟨⟨a1_6, a1_7⟩, ⟨a1_8, a1_9⟩, ⟨a1_10, a1_11⟩⟩⟩ : LRay), .tuple ⟨[((c134 (⟨a0_0, ⟨⟨⟨a0_1, a0_2⟩, ⟨a0_3, a0_4⟩, ⟨a0_5, a0_6⟩⟩, ⟨⟨a0_7, a0_8⟩, ⟨a0_9, a0_10⟩, ⟨a0_11, a0_12⟩⟩, ⟨⟨a0_13, a0_14⟩, ⟨a0_15, a0_16⟩, ⟨a0_17, a0_18⟩⟩⟩, ⟨a0_19, a0_20⟩⟩ : LShape) (⟨⟨⟨a1_0, a1_1⟩, ⟨a1_2, a1_3⟩, ⟨a1_4, a1_5⟩⟩, ⟨⟨a1_6, a1_7⟩, ⟨a1_8, a1_9⟩, ⟨a1_10, a1_11⟩⟩⟩ : LRay)).1).val, ((c134 (⟨a0_0, ⟨⟨⟨a0_1, a0_2⟩, ⟨a0_3, a0_4⟩, ⟨a0_5, a0_6⟩⟩, ⟨⟨a0_7, a0_8⟩, ⟨a0_9, a0_10⟩, ⟨a0_11, a0_12⟩⟩, ⟨⟨a0_13, a0_14⟩, ⟨a0_15, a0_16⟩, ⟨a0_17, a0_18⟩⟩⟩, ⟨a0_19, a0_20⟩⟩ : LShape) (⟨⟨⟨a1_0, a1_1⟩, ⟨a1_2, a1_3⟩, ⟨a1_4, a1_5⟩⟩, ⟨⟨a1_6, a1_7⟩, ⟨a1_8, a1_9⟩, ⟨a1_10, a1_11⟩⟩⟩ : LRay)).2.1).val, ((c134 (⟨a0_0, ⟨⟨⟨a0_1, a0_2⟩, ⟨a0_3, a0_4⟩, ⟨a0_5, a0_6⟩⟩, ⟨⟨a0_7, a0_8⟩, ⟨a0_9, a0_10⟩, ⟨a0_11, a0_12⟩⟩, ⟨⟨a0_13, a0_14⟩, ⟨a0_15, a0_16⟩, ⟨a0_17, a0_18⟩⟩⟩, ⟨a0_19, a0_20⟩⟩ : LShape) (⟨⟨⟨a1_0, a1_1⟩, ⟨a1_2, a1_3⟩, ⟨a1_4, a1_5⟩⟩, ⟨⟨a1_6, a1_7⟩, ⟨a1_8, a1_9⟩, ⟨a1_10, a1_11⟩⟩⟩ : LRay)).2.2).val]⟩)
  | _ => none
theorem shape_quad.phOK : PhOK Tryz.prog 134 (shape_quad.ph (shape_quad M0) (shape_quad.ok M0)) := ⟨by
  intro args v h
  unfold shape_quad.ph at h
  split at h
  · rename_i a0_0 a0_1 a0_2 a0_3 a0_4 a0_5 a0_6 a0_7 a0_8 a0_9 a0_10 a0_11 a0_12 a0_13 a0_14 a0_15 a0_16 a0_17 a0_18 a0_19 a0_20 a1_0 a1_1 a1_2 a1_3 a1_4 a1_5 a1_6 a1_7 a1_8 a1_9 a1_10 a1_11
    simp only [Option.some.injEq, Prod.mk.injEq] at h
    obtain ⟨hok, rfl⟩ := h
    exact ⟨rfl, rfl, shape_quad.call (⟨a0_0, ⟨⟨⟨a0_1, a0_2⟩, ⟨a0_3, a0_4⟩, ⟨a0_5, a0_6⟩⟩, ⟨⟨a0_7, a0_8⟩, ⟨a0_9, a0_10⟩, ⟨a0_11, a0_12⟩⟩, ⟨⟨a0_13, a0_14⟩, ⟨a0_15, a0_16⟩, ⟨a0_17, a0_18⟩⟩⟩, ⟨a0_19, a0_20⟩⟩ : LShape) (⟨⟨⟨a1_0, a1_1⟩, ⟨a1_2, a1_3⟩, ⟨a1_4, a1_5⟩⟩, ⟨⟨a1_6, a1_7⟩, ⟨a1_8, a1_9⟩, ⟨a1_10, a1_11⟩⟩⟩ : LRay) hok⟩
  · cases h⟩
def round_root.L3.k {ρ : Type} (M : Prims) (c141 : Int → Int → Int × Int) (s : Int × Int × Int × Int) (kn kx : (Int × Int × Int × Int) → Option ρ) : Option ρ :=
  cond (decide (s.2.2.2 < 58))
    (let x2 := IntKind.i64.wrap (57 - s.2.2.2)
     cond (decide (0 ≤ x2))
       (let x4 := M.or .u64 s.2.2.1 (shlV .u64 1 x2)
        let x5 := c141 x4 x4
        cond (decide (x5.1 < s.1))
          (kn (s.1, s.2.1, x4, (IntKind.i64.wrap (s.2.2.2 + 1))))
          (cond ((x5.1 : Int) == s.1)
             (cond (decide (x5.2 ≤ s.2.1))
                (kn (s.1, s.2.1, x4, (IntKind.i64.wrap (s.2.2.2 + 1))))
                (kn (s.1, s.2.1, s.2.2.1, (IntKind.i64.wrap (s.2.2.2 + 1)))))
             (kn (s.1, s.2.1, s.2.2.1, (IntKind.i64.wrap (s.2.2.2 + 1))))))
       (none))
    (kx (s.1, s.2.1, s.2.2.1, s.2.2.2))
def round_root.L3.step (M : Prims) (s : Int × Int × Int × Int) : Option (Bool × (Int × Int × Int × Int)) := round_root.L3.k M (bits_Mul64 M) s (fun t => some (true, t)) (fun t => some (false, t))
def round_root.L3 (M : Prims) (a0 : Int) (a1 : Int) (a2 : Int) (a3 : Int) : Int × Int × Int × Int := (runL (round_root.L3.step M) (60) (a0, a1, a2, a3)).getD (a0, a1, a2, a3)
def round_root.L3.ok (M : Prims) (a0 : Int) (a1 : Int) (a2 : Int) (a3 : Int) : Bool := (runL (round_root.L3.step M) (60) (a0, a1, a2, a3)).isSome
def round_root.L3.vals (s : Int × Int × Int × Int) : List (Nat × Value) := [(0, .int .u64 s.1), (1, .int .u64 s.2.1), (6, .int .u64 s.2.2.1), (13, .int .i64 s.2.2.2)]
def round_root.L3.asgL : List Nat := [14, 15, 7, 16, 17, 18, 19, 20, 8, 22, 23, 24, 21, 25, 26, 9, 10, 27, 28, 29, 30, 31, 32, 33, 34, 35, 36, 37, 38, 39, 40, 6, 41, 13]
noncomputable def round_root.L3.body : Code := (nth (loopsOf (Tryz.f149.body.getD .skip)) 0).getD .skip
def round_root.k (_ : Prims) (c141 : Int → Int → Int × Int) (l3 : Int → Int → Int → Int → Int × Int × Int × Int) (l3ok : Int → Int → Int → Int → Bool) (hi : Int) (lo : Int) (k : Int × Bool → R) : R :=
  let x13 := l3 hi lo 0 0
  cond (l3ok hi lo 0 0)
    (let x14 := c141 x13.2.2.1 x13.2.2.1
     cond ((x14.1 : Int) != x13.1)
       (k (x13.2.2.1, true))
       (k (x13.2.2.1, ((x14.2 : Int) != x13.2.1))))
    (none)
def round_root (M : Prims) (hi : Int) (lo : Int) : Int × Bool :=
  let x13 := round_root.L3 M hi lo 0 0
  let x14 := bits_Mul64 M x13.2.2.1 x13.2.2.1
  cond ((x14.1 : Int) != x13.1)
    ((x13.2.2.1, true))
    ((x13.2.2.1, ((x14.2 : Int) != x13.2.1)))
def round_root.ok (M : Prims) (hi : Int) (lo : Int) : Bool :=
  cond (round_root.L3.ok M hi lo 0 0)
    (true)
    (false)
def round_root.fns (c141 : Int → Int → Int × Int) : FuncId → List Value → Option (Bool × Value) := ifId 141 (bits_Mul64.ph c141) <| noFns
def round_root.L3.at (l : Int → Int → Int → Int → Int × Int × Int × Int) (lok : Int → Int → Int → Int → Bool) (e : Env) (h : Hp) : Option (Bool × Nat × Env × Hp) :=
  match keysLt 57 e, getE e 0, getE e 1, getE e 6, getE e 13 with
  | true, .int .u64 a0, .int .u64 a1, .int .u64 a2, .int .i64 a3 => some (lok a0 a1 a2 a3, 0, mkE (round_root.L3.vals (l a0 a1 a2 a3)) round_root.L3.asgL (getE e) (upTo 57 0), h)
  | _, _, _, _, _ => none
def round_root.lps (l3 : Int → Int → Int → Int → Int × Int × Int × Int) (l3ok : Int → Int → Int → Int → Bool) : Loops := fun key e h => match key with
  | 3 => round_root.L3.at l3 l3ok e h
  | _ => none
theorem round_root.L3.ev (M : Prims) (c141 : Int → Int → Int × Int) (l3 : Int → Int → Int → Int → Int × Int × Int × Int) (l3ok : Int → Int → Int → Int → Bool) (b : Nat → Value) (h : Hp) (s : Int × Int × Int × Int) : ev tab M (pureFns (round_root.fns c141)) (round_root.lps l3 l3ok) true 57 60 round_root.L3.body (mkE (round_root.L3.vals s) round_root.L3.asgL b (upTo 57 0)) h (fun o e h => some (o, getEs e [0, 1, 6, 13], h)) = round_root.L3.k M c141 s (fun t => some (.norm, sndL (round_root.L3.vals t), h)) (fun t => some (.exit 0, sndL (round_root.L3.vals t), h)) := by kernel_rfl
theorem round_root.L3.nat {ρ : Type} (M : Prims) (s s2 : Int × Int × Int × Int) (g : Bool) (kn kx : (Int × Int × Int × Int) → Option ρ) : round_root.L3.step M s = some (g, s2) → round_root.L3.k M (bits_Mul64 M) s kn kx = cond g (kn s2) (kx s2) := by
  unfold round_root.L3.step round_root.L3.k
  exact nC (nC (nC nN (nC (nC nN nN) nN)) nD) nX
theorem round_root.fnsOK : PureFns Tryz.prog (round_root.fns (bits_Mul64 M0)) := ifIdOK bits_Mul64.phOK <| noFnsOK
theorem round_root.L3.isOK : LoopOK Tryz.prog 57 (round_root.lps (round_root.L3 M0) (round_root.L3.ok M0)) round_root.L3.body := by
  intro e h x e2 h2 hL0
  rw [show keyOf round_root.L3.body = 3 from by kernel_rfl] at hL0
  have hL : round_root.L3.at (round_root.L3 M0) (round_root.L3.ok M0) e h = some (true, x, e2, h2) := hL0
  unfold round_root.L3.at at hL
  split at hL
  · rename_i a0 a1 a2 a3 hk e0 e1 e2 e3
    simp only [Option.some.injEq, Prod.mk.injEq] at hL
    obtain ⟨hok, rfl, rfl, rfl⟩ := hL
    obtain ⟨s2, hs⟩ := Option.isSome_iff_exists.1 hok
    unfold round_root.L3
    rw [hs]
    refine loop_rounds (P := Tryz.prog) (T := tab) (Φ := pureFns (round_root.fns (bits_Mul64 M0))) (pc := true) (Λ := (round_root.lps (round_root.L3 M0) (round_root.L3.ok M0))) (setting_pure (P := Tryz.prog) mixed tabOK round_root.fnsOK) (c := round_root.L3.body) (by rw [show loopsOf round_root.L3.body = [] from by kernel_rfl]; exact trivial) (by rw [show loopsOf round_root.L3.body = [] from by kernel_rfl]; exact trivial) (round_root.L3.step M0) round_root.L3.vals [0, 1, 6, 13] (fun _ => rfl) 0 60 (asg := round_root.L3.asgL) (by kernel_rfl) ?_ (by kernel_rfl) _ _ _ e h hs hk ?_
    · intro b h s s2 g hst
      refine (round_root.L3.ev M0 (bits_Mul64 M0) (round_root.L3 M0) (round_root.L3.ok M0) b h s).trans ((round_root.L3.nat M0 s s2 g _ _ hst).trans ?_)
      cases g <;> rfl
    · intro p hp
      simp only [round_root.L3.vals, List.mem_cons, List.not_mem_nil, or_false] at hp
      rcases hp with rfl | rfl | rfl | rfl <;> assumption
  · cases hL
theorem round_root.lpsOK : LoopsOK Tryz.prog 57 (round_root.lps (round_root.L3 M0) (round_root.L3.ok M0)) (loopsOf (Tryz.f149.body.getD .skip)) := by
  rw [show loopsOf (Tryz.f149.body.getD .skip) = [round_root.L3.body] from by kernel_rfl]
  exact ⟨round_root.L3.isOK, trivial⟩
theorem round_root.ev (M : Prims) (c141 : Int → Int → Int × Int) (l3 : Int → Int → Int → Int → Int × Int × Int × Int) (l3ok : Int → Int → Int → Int → Bool) (hi : Int) (lo : Int) : evP tab M (round_root.fns c141) (round_root.lps l3 l3ok) 300 Tryz.f149 [(.int .u64 hi), (.int .u64 lo)] = round_root.k M c141 l3 l3ok hi lo (fun r => some (.tuple ⟨[(.int .u64 r.1), (.bool r.2)]⟩, [])) := by kernel_rfl
theorem round_root.k_eq (M : Prims) (hi : Int) (lo : Int) (k : Int × Bool → R) : round_root.ok M hi lo = true → round_root.k M (bits_Mul64 M) (round_root.L3 M) (round_root.L3.ok M) hi lo k = k (round_root M hi lo) := by
  unfold round_root.ok round_root.k round_root
  exact kL (fun _ => pC rfl rfl)
theorem round_root.call (hi : Int) (lo : Int) (h : round_root.ok M0 hi lo = true) : PureOK Tryz.prog 149 [(.int .u64 hi), (.int .u64 lo)] (.tuple ⟨[(.int .u64 ((round_root M0 hi lo).1)), (.bool ((round_root M0 hi lo).2))]⟩) :=
  evP_sound (P := Tryz.prog) mixed tabOK round_root.fnsOK Tryz.func149 rfl (Λ := (round_root.lps (round_root.L3 M0) (round_root.L3.ok M0))) (c := Tryz.f149.body.getD .skip) rfl round_root.lpsOK rfl (Nat.zero_le 1) rfl rfl ((round_root.ev M0 (bits_Mul64 M0) (round_root.L3 M0) (round_root.L3.ok M0) hi lo).trans (round_root.k_eq M0 hi lo _ h))
def round_root.ph (c149 : Int → Int → Int × Bool) (c149ok : Int → Int → Bool) : Ph := fun args => match args with
  | [.int .u64 a0_, .int .u64 a1_] => some (c149ok a0_ a1_, .tuple ⟨[(.int .u64 ((c149 a0_ a1_).1)), (.bool ((c149 a0_ a1_).2))]⟩)
  | _ => none
theorem round_root.phOK : PhOK Tryz.prog 149 (round_root.ph (round_root M0) (round_root.ok M0)) := ⟨by
  intro args v h
  unfold round_root.ph at h
  split at h
  · rename_i a0_ a1_
    simp only [Option.some.injEq, Prod.mk.injEq] at h
    obtain ⟨hok, rfl⟩ := h
    exact ⟨rfl, rfl, round_root.call a0_ a1_ hok⟩
  · cases h⟩
def round_Sqrt.k (M : Prims) (c140 : Nat → LExact) (c140ok : Nat → Bool) (c142 : LExact → Bool → Nat) (c142ok : LExact → Bool → Bool) (c147 : LExact → Int → LExact) (c147ok : LExact → Int → Bool) (c148 : LExact → Int) (c148ok : LExact → Bool) (c149 : Int → Int → Int × Bool) (c149ok : Int → Int → Bool) (c96 : Nat → Bool) (c96ok : Nat → Bool) (a : Nat) (down : Bool) (k : Nat × Int → R) : R :=
  cond (c96ok a)
    (cond (!(c96 a))
       (k (0, 10))
       (cond (M.lt a 0)
          (k (0, 12))
          (cond (M.eq a 0)
             (k (0, 0))
             (let x5 := c140 a
              cond (c140ok a)
                (cond (c148ok x5)
                   (let x7 := IntKind.i64.wrap (115 - (c148 x5))
                    let x8 := c147 x5 x7
                    cond (c147ok x5 x7)
                      (cond (((Int.tmod x8.e 2) : Int) != 0)
                         (let x11 := c147 x8 1
                          cond (c147ok x8 1)
                            (let x12 := c149 x11.hi x11.lo
                             cond (c149ok x11.hi x11.lo)
                               (let x13 := IntKind.i64.wrap (Int.tdiv x11.e 2)
                                cond (c142ok (⟨false, 0, x12.1, x13, x12.2⟩ : LExact) down)
                                  (k ((c142 (⟨false, 0, x12.1, x13, x12.2⟩ : LExact) down), 0))
                                  (none))
                               (none))
                            (none))
                         (let x15 := c149 x8.hi x8.lo
                          cond (c149ok x8.hi x8.lo)
                            (let x16 := IntKind.i64.wrap (Int.tdiv x8.e 2)
                             cond (c142ok (⟨false, 0, x15.1, x16, x15.2⟩ : LExact) down)
                               (k ((c142 (⟨false, 0, x15.1, x16, x15.2⟩ : LExact) down), 0))
                               (none))
                            (none)))
                      (none))
                   (none))
                (none)))))
    (none)
def round_Sqrt (M : Prims) (a : Nat) (down : Bool) : Nat × Int :=
  cond (!(round_Number M a))
    ((0, 10))
    (cond (M.lt a 0)
       ((0, 12))
       (cond (M.eq a 0)
          ((0, 0))
          (let x5 := round_split M a
           let x8 := round_exact_left M x5 (IntKind.i64.wrap (115 - (round_exact_length M x5)))
           cond (((Int.tmod x8.e 2) : Int) != 0)
             (let x11 := round_exact_left M x8 1
              let x12 := round_root M x11.hi x11.lo
              ((round_exact_to M (⟨false, 0, x12.1, (IntKind.i64.wrap (Int.tdiv x11.e 2)), x12.2⟩ : LExact) down), 0))
             (let x15 := round_root M x8.hi x8.lo
              ((round_exact_to M (⟨false, 0, x15.1, (IntKind.i64.wrap (Int.tdiv x8.e 2)), x15.2⟩ : LExact) down), 0)))))
def round_Sqrt.ok (M : Prims) (a : Nat) (down : Bool) : Bool :=
  cond (round_Number.ok M a)
    (cond (!(round_Number M a))
       (true)
       (cond (M.lt a 0)
          (true)
          (cond (M.eq a 0)
             (true)
             (let x5 := round_split M a
              cond (round_split.ok M a)
                (cond (round_exact_length.ok M x5)
                   (let x7 := IntKind.i64.wrap (115 - (round_exact_length M x5))
                    let x8 := round_exact_left M x5 x7
                    cond (round_exact_left.ok M x5 x7)
                      (cond (((Int.tmod x8.e 2) : Int) != 0)
                         (let x11 := round_exact_left M x8 1
                          cond (round_exact_left.ok M x8 1)
                            (let x12 := round_root M x11.hi x11.lo
                             cond (round_root.ok M x11.hi x11.lo)
                               (cond (round_exact_to.ok M (⟨false, 0, x12.1, (IntKind.i64.wrap (Int.tdiv x11.e 2)), x12.2⟩ : LExact) down)
                                  (true)
                                  (false))
                               (false))
                            (false))
                         (let x15 := round_root M x8.hi x8.lo
                          cond (round_root.ok M x8.hi x8.lo)
                            (cond (round_exact_to.ok M (⟨false, 0, x15.1, (IntKind.i64.wrap (Int.tdiv x8.e 2)), x15.2⟩ : LExact) down)
                               (true)
                               (false))
                            (false)))
                      (false))
                   (false))
                (false)))))
    (false)
def round_Sqrt.fns (c140 : Nat → LExact) (c140ok : Nat → Bool) (c142 : LExact → Bool → Nat) (c142ok : LExact → Bool → Bool) (c147 : LExact → Int → LExact) (c147ok : LExact → Int → Bool) (c148 : LExact → Int) (c148ok : LExact → Bool) (c149 : Int → Int → Int × Bool) (c149ok : Int → Int → Bool) (c96 : Nat → Bool) (c96ok : Nat → Bool) : FuncId → List Value → Option (Bool × Value) := ifId 140 (round_split.ph c140 c140ok) <| ifId 142 (round_exact_to.ph c142 c142ok) <| ifId 147 (round_exact_left.ph c147 c147ok) <| ifId 148 (round_exact_length.ph c148 c148ok) <| ifId 149 (round_root.ph c149 c149ok) <| ifId 96 (round_Number.ph c96 c96ok) <| noFns
theorem round_Sqrt.fnsOK : PureFns Tryz.prog (round_Sqrt.fns (round_split M0) (round_split.ok M0) (round_exact_to M0) (round_exact_to.ok M0) (round_exact_left M0) (round_exact_left.ok M0) (round_exact_length M0) (round_exact_length.ok M0) (round_root M0) (round_root.ok M0) (round_Number M0) (round_Number.ok M0)) := ifIdOK round_split.phOK <| ifIdOK round_exact_to.phOK <| ifIdOK round_exact_left.phOK <| ifIdOK round_exact_length.phOK <| ifIdOK round_root.phOK <| ifIdOK round_Number.phOK <| noFnsOK
theorem round_Sqrt.ev (M : Prims) (c140 : Nat → LExact) (c140ok : Nat → Bool) (c142 : LExact → Bool → Nat) (c142ok : LExact → Bool → Bool) (c147 : LExact → Int → LExact) (c147ok : LExact → Int → Bool) (c148 : LExact → Int) (c148ok : LExact → Bool) (c149 : Int → Int → Int × Bool) (c149ok : Int → Int → Bool) (c96 : Nat → Bool) (c96ok : Nat → Bool)  (a : Nat) (down : Bool) : evP tab M (round_Sqrt.fns c140 c140ok c142 c142ok c147 c147ok c148 c148ok c149 c149ok c96 c96ok) noLoops 300 Tryz.f102 [(.float .f64 a), (.bool down)] = round_Sqrt.k M c140 c140ok c142 c142ok c147 c147ok c148 c148ok c149 c149ok c96 c96ok  a down (fun r => some (.tuple ⟨[(.float .f64 r.1), (.int .i64 r.2)]⟩, [])) := by kernel_rfl
theorem round_Sqrt.k_eq (M : Prims) (a : Nat) (down : Bool) (k : Nat × Int → R) : round_Sqrt.ok M a down = true → round_Sqrt.k M (round_split M) (round_split.ok M) (round_exact_to M) (round_exact_to.ok M) (round_exact_left M) (round_exact_left.ok M) (round_exact_length M) (round_exact_length.ok M) (round_root M) (round_root.ok M) (round_Number M) (round_Number.ok M) a down k = k (round_Sqrt M a down) := by
  unfold round_Sqrt.ok round_Sqrt.k round_Sqrt
  exact kL (kC (fun _ => rfl) (kC (fun _ => rfl) (kC (fun _ => rfl) (kL (kL (kL (kC (kL (kL (kL (fun _ => rfl)))) (kL (kL (fun _ => rfl))))))))))
theorem round_Sqrt.call (a : Nat) (down : Bool) (h : round_Sqrt.ok M0 a down = true) : PureOK Tryz.prog 102 [(.float .f64 a), (.bool down)] (.tuple ⟨[(.float .f64 ((round_Sqrt M0 a down).1)), (.int .i64 ((round_Sqrt M0 a down).2))]⟩) :=
  evP_sound (P := Tryz.prog) mixed tabOK round_Sqrt.fnsOK Tryz.func102 rfl (Λ := noLoops) (c := Tryz.f102.body.getD .skip) rfl (noLoopsOK _) rfl (Nat.zero_le 1) rfl rfl ((round_Sqrt.ev M0 (round_split M0) (round_split.ok M0) (round_exact_to M0) (round_exact_to.ok M0) (round_exact_left M0) (round_exact_left.ok M0) (round_exact_length M0) (round_exact_length.ok M0) (round_root M0) (round_root.ok M0) (round_Number M0) (round_Number.ok M0) a down).trans (round_Sqrt.k_eq M0 a down _ h))
def round_Sqrt.ph (c102 : Nat → Bool → Nat × Int) (c102ok : Nat → Bool → Bool) : Ph := fun args => match args with
  | [.float .f64 a0_, .bool a1_] => some (c102ok a0_ a1_, .tuple ⟨[(.float .f64 ((c102 a0_ a1_).1)), (.int .i64 ((c102 a0_ a1_).2))]⟩)
  | _ => none
theorem round_Sqrt.phOK : PhOK Tryz.prog 102 (round_Sqrt.ph (round_Sqrt M0) (round_Sqrt.ok M0)) := ⟨by
  intro args v h
  unfold round_Sqrt.ph at h
  split at h
  · rename_i a0_ a1_
    simp only [Option.some.injEq, Prod.mk.injEq] at h
    obtain ⟨hok, rfl⟩ := h
    exact ⟨rfl, rfl, round_Sqrt.call a0_ a1_ hok⟩
  · cases h⟩
def span_Sqrt.k (M : Prims) (c102 : Nat → Bool → Nat × Int) (c102ok : Nat → Bool → Bool) (c93 : LSpan → Bool) (c93ok : LSpan → Bool) (c94 : LSpan) (a : LSpan) (k : LSpan → R) : R :=
  cond (M.lt a.hi 0)
    (k c94)
    (cond (c93ok a)
       (cond (c93 a)
          (k c94)
          (let x5 := M.max a.lo 0
           cond (c102ok x5 true)
             (cond (c102ok a.hi false)
                (k (⟨(c102 x5 true).1, (c102 a.hi false).1⟩ : LSpan))
                (none))
             (none)))
       (none))
def span_Sqrt (M : Prims) (a : LSpan) : LSpan :=
  cond (M.lt a.hi 0)
    ((span_All M))
    (cond (span_Wide M a)
       ((span_All M))
       ((⟨(round_Sqrt M (M.max a.lo 0) true).1, (round_Sqrt M a.hi false).1⟩ : LSpan)))
def span_Sqrt.ok (M : Prims) (a : LSpan) : Bool :=
  cond (M.lt a.hi 0)
    (true)
    (cond (span_Wide.ok M a)
       (cond (span_Wide M a)
          (true)
          (cond (round_Sqrt.ok M (M.max a.lo 0) true)
             (cond (round_Sqrt.ok M a.hi false)
                (true)
                (false))
             (false)))
       (false))
def span_Sqrt.fns (c102 : Nat → Bool → Nat × Int) (c102ok : Nat → Bool → Bool) (c93 : LSpan → Bool) (c93ok : LSpan → Bool) (c94 : LSpan) : FuncId → List Value → Option (Bool × Value) := ifId 102 (round_Sqrt.ph c102 c102ok) <| ifId 93 (span_Wide.ph c93 c93ok) <| ifId 94 (span_All.ph c94) <| noFns
theorem span_Sqrt.fnsOK : PureFns Tryz.prog (span_Sqrt.fns (round_Sqrt M0) (round_Sqrt.ok M0) (span_Wide M0) (span_Wide.ok M0) (span_All M0)) := ifIdOK round_Sqrt.phOK <| ifIdOK span_Wide.phOK <| ifIdOK span_All.phOK <| noFnsOK
theorem span_Sqrt.ev (M : Prims) (c102 : Nat → Bool → Nat × Int) (c102ok : Nat → Bool → Bool) (c93 : LSpan → Bool) (c93ok : LSpan → Bool) (c94 : LSpan)  (a : LSpan) : evP tab M (span_Sqrt.fns c102 c102ok c93 c93ok c94) noLoops 300 Tryz.f53 [a.val] = span_Sqrt.k M c102 c102ok c93 c93ok c94  a (fun r => some (r.val, [])) := by kernel_rfl
theorem span_Sqrt.k_eq (M : Prims) (a : LSpan) (k : LSpan → R) : span_Sqrt.ok M a = true → span_Sqrt.k M (round_Sqrt M) (round_Sqrt.ok M) (span_Wide M) (span_Wide.ok M) (span_All M) a k = k (span_Sqrt M a) := by
  unfold span_Sqrt.ok span_Sqrt.k span_Sqrt
  exact kC (fun _ => rfl) (kL (kC (fun _ => rfl) (kL (kL (fun _ => rfl)))))
theorem span_Sqrt.call (a : LSpan) (h : span_Sqrt.ok M0 a = true) : PureOK Tryz.prog 53 [a.val] ((span_Sqrt M0 a).val) :=
  evP_sound (P := Tryz.prog) mixed tabOK span_Sqrt.fnsOK Tryz.func53 rfl (Λ := noLoops) (c := Tryz.f53.body.getD .skip) rfl (noLoopsOK _) rfl (Nat.zero_le 1) rfl rfl ((span_Sqrt.ev M0 (round_Sqrt M0) (round_Sqrt.ok M0) (span_Wide M0) (span_Wide.ok M0) (span_All M0) a).trans (span_Sqrt.k_eq M0 a _ h))
def span_Sqrt.ph (c53 : LSpan → LSpan) (c53ok : LSpan → Bool) : Ph := fun args => match args with
  | [.agg ⟨[.float .f64 a0_0, .float .f64 a0_1]⟩] => some (c53ok (⟨a0_0, a0_1⟩ : LSpan), (c53 (⟨a0_0, a0_1⟩ : LSpan)).val)
  | _ => none
theorem span_Sqrt.phOK : PhOK Tryz.prog 53 (span_Sqrt.ph (span_Sqrt M0) (span_Sqrt.ok M0)) := ⟨by
  intro args v h
  unfold span_Sqrt.ph at h
  split at h
  · rename_i a0_0 a0_1
    simp only [Option.some.injEq, Prod.mk.injEq] at h
    obtain ⟨hok, rfl⟩ := h
    exact ⟨rfl, rfl, span_Sqrt.call (⟨a0_0, a0_1⟩ : LSpan) hok⟩
  · cases h⟩
def shape_hit.k (_ : Prims) (in_0 : Int) (t : LSpan) (k : LHit → R) : R :=
  cond ((in_0 : Int) != 1)
    (k (⟨in_0, (⟨0, 0⟩ : LSpan), (⟨0, 0⟩ : LSpan), (⟨0, 0⟩ : LSpan)⟩ : LHit))
    (k (⟨1, t, (⟨0, 0⟩ : LSpan), (⟨0, 0⟩ : LSpan)⟩ : LHit))
def shape_hit (_ : Prims) (in_0 : Int) (t : LSpan) : LHit :=
  cond ((in_0 : Int) != 1)
    ((⟨in_0, (⟨0, 0⟩ : LSpan), (⟨0, 0⟩ : LSpan), (⟨0, 0⟩ : LSpan)⟩ : LHit))
    ((⟨1, t, (⟨0, 0⟩ : LSpan), (⟨0, 0⟩ : LSpan)⟩ : LHit))
def shape_hit.fns : FuncId → List Value → Option (Bool × Value) := noFns
theorem shape_hit.fnsOK : PureFns Tryz.prog shape_hit.fns := noFnsOK
theorem shape_hit.ev (M : Prims)   (in_0 : Int) (t : LSpan) : evP tab M shape_hit.fns noLoops 300 Tryz.f136 [(.int .i64 in_0), t.val] = shape_hit.k M   in_0 t (fun r => some (r.val, [])) := by kernel_rfl
theorem shape_hit.k_eq (M : Prims) (in_0 : Int) (t : LSpan) (k : LHit → R) : shape_hit.k M  in_0 t k = k (shape_hit M in_0 t) := by
  unfold shape_hit.k shape_hit
  exact pC rfl rfl
theorem shape_hit.call (in_0 : Int) (t : LSpan) : PureOK Tryz.prog 136 [(.int .i64 in_0), t.val] ((shape_hit M0 in_0 t).val) :=
  evP_sound (P := Tryz.prog) mixed tabOK shape_hit.fnsOK Tryz.func136 rfl (Λ := noLoops) (c := Tryz.f136.body.getD .skip) rfl (noLoopsOK _) rfl (Nat.zero_le 1) rfl rfl ((shape_hit.ev M0  in_0 t).trans (shape_hit.k_eq M0 in_0 t _))
def shape_hit.ph (c136 : Int → LSpan → LHit) : Ph := fun args => match args with
  | [.int .i64 a0_, .agg ⟨[.float .f64 a1_0, .float .f64 a1_1]⟩] => some (true, (c136 a0_ (⟨a1_0, a1_1⟩ : LSpan)).val)
  | _ => none
theorem shape_hit.phOK : PhOK Tryz.prog 136 (shape_hit.ph (shape_hit M0)) := ⟨by
  intro args v h
  unfold shape_hit.ph at h
  split at h
  · rename_i a0_ a1_0 a1_1
    simp only [Option.some.injEq, Prod.mk.injEq, true_and] at h
    subst h
    exact ⟨rfl, rfl, shape_hit.call a0_ (⟨a1_0, a1_1⟩ : LSpan)⟩
  · cases h⟩
def shape_all_s2.k (_ : Prims) (list0 : Int) (list1 : Int) (k : Int → R) : R :=
  cond ((list0 : Int) == 0)
    (k 0)
    (cond ((list0 : Int) != 1)
       (cond ((list1 : Int) == 0)
          (k 0)
          (cond ((list1 : Int) != 1)
             (k 2)
             (k 2)))
       (cond ((list1 : Int) == 0)
          (k 0)
          (cond ((list1 : Int) != 1)
             (k 2)
             (k 1))))
def shape_all_s2 (_ : Prims) (list0 : Int) (list1 : Int) : Int :=
  cond ((list0 : Int) == 0)
    (0)
    (cond ((list0 : Int) != 1)
       (cond ((list1 : Int) == 0)
          (0)
          (cond ((list1 : Int) != 1)
             (2)
             (2)))
       (cond ((list1 : Int) == 0)
          (0)
          (cond ((list1 : Int) != 1)
             (2)
             (1))))
def shape_all_s2.fns : FuncId → List Value → Option (Bool × Value) := noFns
theorem shape_all_s2.fnsOK : PureFns Tryz.prog shape_all_s2.fns := noFnsOK
theorem shape_all_s2.ev (M : Prims)   (list0 : Int) (list1 : Int) : evP tab M shape_all_s2.fns noLoops 300 Tryz.f131 [.tuple ⟨[.int .i64 57, .int .i64 2, .int .i64 2, .int .i64 list0, .int .i64 list1]⟩] = shape_all_s2.k M   list0 list1 (fun r => some ((.int .i64 r), [([.int .i64 list0, .int .i64 list1], 57)])) := by kernel_rfl
theorem shape_all_s2.k_eq (M : Prims) (list0 : Int) (list1 : Int) (k : Int → R) : shape_all_s2.k M  list0 list1 k = k (shape_all_s2 M list0 list1) := by
  unfold shape_all_s2.k shape_all_s2
  exact pC rfl (pC (pC rfl (pC rfl rfl)) (pC rfl (pC rfl rfl)))
theorem shape_all_s2.call (list0 : Int) (list1 : Int) : PureOK Tryz.prog 131 [.tuple ⟨[.int .i64 57, .int .i64 2, .int .i64 2, .int .i64 list0, .int .i64 list1]⟩] (.int .i64 (shape_all_s2 M0 list0 list1)) :=
  evP_sound (P := Tryz.prog) mixed tabOK shape_all_s2.fnsOK Tryz.func131 rfl (Λ := noLoops) (c := Tryz.f131.body.getD .skip) rfl (noLoopsOK _) rfl (Nat.le_refl 1) rfl rfl ((shape_all_s2.ev M0  list0 list1).trans (shape_all_s2.k_eq M0 list0 list1 _))
def shape_all_s2.ph (c131_2 : Int → Int → Int) : Ph := fun args => match args with
  | [.tuple ⟨[.int .i64 57, .int .i64 2, .int .i64 2, .int .i64 a0_0, .int .i64 a0_1]⟩] => some (true, (.int .i64 (c131_2 a0_0 a0_1)))
  | _ => none
theorem shape_all_s2.phOK : PhOK Tryz.prog 131 (shape_all_s2.ph (shape_all_s2 M0)) := ⟨by
  intro args v h
  unfold shape_all_s2.ph at h
  split at h
  · rename_i a0_0 a0_1
    simp only [Option.some.injEq, Prod.mk.injEq, true_and] at h
    subst h
    exact ⟨rfl, rfl, shape_all_s2.call a0_0 a0_1⟩
  · cases h⟩
end Go.Lan

namespace Go.Lan
open Go.Proofs
def shape_sphere.k (_ : Prims) (c131_2 : Int → Int → Int) (c103 : LSpan → LSpan) (c132 : LSpan → Int) (c133 : LSpan → Int) (c134 : LShape → LRay → LSpan × LSpan × LSpan) (c134ok : LShape → LRay → Bool) (c135 : LSpan → LSpan) (c135ok : LSpan → Bool) (c136 : Int → LSpan → LHit) (c49 : LSpan → LSpan → LSpan) (c49ok : LSpan → LSpan → Bool) (c53 : LSpan → LSpan) (c53ok : LSpan → Bool) (c54 : LSpan → LSpan → LSpan) (c54ok : LSpan → LSpan → Bool) (c62 : LSpan → LSpan → LSpan) (c62ok : LSpan → LSpan → Bool) (c68 : LSpan → LSpan → LSpan) (c68ok : LSpan → LSpan → Bool) (s : LShape) (r : LRay) (k : LHit → R) : R :=
  let x1 := c134 s r
  cond (c134ok s r)
    (let x2 := c135 x1.2.1
     cond (c135ok x1.2.1)
       (let x3 := c49 x1.1 x1.2.2
        cond (c49ok x1.1 x1.2.2)
          (let x4 := c54 x2 x3
           cond (c54ok x2 x3)
             (let x7 := c131_2 (c133 x1.1) (c132 x4)
              cond ((x7 : Int) != 1)
                (k (⟨x7, (⟨0, 0⟩ : LSpan), (⟨0, 0⟩ : LSpan), (⟨0, 0⟩ : LSpan)⟩ : LHit))
                (let x9 := c53 x4
                 cond (c53ok x4)
                   (let x10 := c103 x1.2.1
                    let x11 := c54 x10 x9
                    cond (c54ok x10 x9)
                      (let x12 := c68 x11 x1.1
                       cond (c68ok x11 x1.1)
                         (let x13 := c133 x12
                          cond ((x13 : Int) != 0)
                            (k (c136 x13 x12))
                            (let x16 := c103 x1.2.1
                             let x17 := c62 x16 x9
                             cond (c62ok x16 x9)
                               (let x18 := c68 x17 x1.1
                                cond (c68ok x17 x1.1)
                                  (k (c136 (c133 x18) x18))
                                  (none))
                               (none)))
                         (none))
                      (none))
                   (none)))
             (none))
          (none))
       (none))
    (none)
def shape_sphere (M : Prims) (s : LShape) (r : LRay) : LHit :=
  let x1 := shape_quad M s r
  let x4 := span_Sub M (span_Sqr M x1.2.1) (span_Mul M x1.1 x1.2.2)
  let x7 := shape_all_s2 M (span_Positive M x1.1) (shape_atLeast M x4)
  cond ((x7 : Int) != 1)
    ((⟨x7, (⟨0, 0⟩ : LSpan), (⟨0, 0⟩ : LSpan), (⟨0, 0⟩ : LSpan)⟩ : LHit))
    (let x9 := span_Sqrt M x4
     let x12 := span_Div M (span_Sub M (span_Neg M x1.2.1) x9) x1.1
     let x13 := span_Positive M x12
     cond ((x13 : Int) != 0)
       ((shape_hit M x13 x12))
       (let x18 := span_Div M (span_Add M (span_Neg M x1.2.1) x9) x1.1
        (shape_hit M (span_Positive M x18) x18)))
def shape_sphere.ok (M : Prims) (s : LShape) (r : LRay) : Bool :=
  let x1 := shape_quad M s r
  cond (shape_quad.ok M s r)
    (let x2 := span_Sqr M x1.2.1
     cond (span_Sqr.ok M x1.2.1)
       (let x3 := span_Mul M x1.1 x1.2.2
        cond (span_Mul.ok M x1.1 x1.2.2)
          (let x4 := span_Sub M x2 x3
           cond (span_Sub.ok M x2 x3)
             (cond (((shape_all_s2 M (span_Positive M x1.1) (shape_atLeast M x4)) : Int) != 1)
                (true)
                (let x9 := span_Sqrt M x4
                 cond (span_Sqrt.ok M x4)
                   (let x10 := span_Neg M x1.2.1
                    let x11 := span_Sub M x10 x9
                    cond (span_Sub.ok M x10 x9)
                      (cond (span_Div.ok M x11 x1.1)
                         (cond (((span_Positive M (span_Div M x11 x1.1)) : Int) != 0)
                            (true)
                            (let x16 := span_Neg M x1.2.1
                             cond (span_Add.ok M x16 x9)
                               (cond (span_Div.ok M (span_Add M x16 x9) x1.1)
                                  (true)
                                  (false))
                               (false)))
                         (false))
                      (false))
                   (false)))
             (false))
          (false))
       (false))
    (false)
def shape_sphere.fns (c131_2 : Int → Int → Int) (c103 : LSpan → LSpan) (c132 : LSpan → Int) (c133 : LSpan → Int) (c134 : LShape → LRay → LSpan × LSpan × LSpan) (c134ok : LShape → LRay → Bool) (c135 : LSpan → LSpan) (c135ok : LSpan → Bool) (c136 : Int → LSpan → LHit) (c49 : LSpan → LSpan → LSpan) (c49ok : LSpan → LSpan → Bool) (c53 : LSpan → LSpan) (c53ok : LSpan → Bool) (c54 : LSpan → LSpan → LSpan) (c54ok : LSpan → LSpan → Bool) (c62 : LSpan → LSpan → LSpan) (c62ok : LSpan → LSpan → Bool) (c68 : LSpan → LSpan → LSpan) (c68ok : LSpan → LSpan → Bool) : FuncId → List Value → Option (Bool × Value) := ifId 131 (shape_all_s2.ph c131_2) <| ifId 103 (span_Neg.ph c103) <| ifId 132 (shape_atLeast.ph c132) <| ifId 133 (span_Positive.ph c133) <| ifId 134 (shape_quad.ph c134 c134ok) <| ifId 135 (span_Sqr.ph c135 c135ok) <| ifId 136 (shape_hit.ph c136) <| ifId 49 (span_Mul.ph c49 c49ok) <| ifId 53 (span_Sqrt.ph c53 c53ok) <| ifId 54 (span_Sub.ph c54 c54ok) <| ifId 62 (span_Add.ph c62 c62ok) <| ifId 68 (span_Div.ph c68 c68ok) <| noFns
theorem shape_sphere.fnsOK : PureFns Tryz.prog (shape_sphere.fns (shape_all_s2 M0) (span_Neg M0) (shape_atLeast M0) (span_Positive M0) (shape_quad M0) (shape_quad.ok M0) (span_Sqr M0) (span_Sqr.ok M0) (shape_hit M0) (span_Mul M0) (span_Mul.ok M0) (span_Sqrt M0) (span_Sqrt.ok M0) (span_Sub M0) (span_Sub.ok M0) (span_Add M0) (span_Add.ok M0) (span_Div M0) (span_Div.ok M0)) := ifIdOK shape_all_s2.phOK <| ifIdOK span_Neg.phOK <| ifIdOK shape_atLeast.phOK <| ifIdOK span_Positive.phOK <| ifIdOK shape_quad.phOK <| ifIdOK span_Sqr.phOK <| ifIdOK shape_hit.phOK <| ifIdOK span_Mul.phOK <| ifIdOK span_Sqrt.phOK <| ifIdOK span_Sub.phOK <| ifIdOK span_Add.phOK <| ifIdOK span_Div.phOK <| noFnsOK
theorem shape_sphere.ev (M : Prims) (c131_2 : Int → Int → Int) (c103 : LSpan → LSpan) (c132 : LSpan → Int) (c133 : LSpan → Int) (c134 : LShape → LRay → LSpan × LSpan × LSpan) (c134ok : LShape → LRay → Bool) (c135 : LSpan → LSpan) (c135ok : LSpan → Bool) (c136 : Int → LSpan → LHit) (c49 : LSpan → LSpan → LSpan) (c49ok : LSpan → LSpan → Bool) (c53 : LSpan → LSpan) (c53ok : LSpan → Bool) (c54 : LSpan → LSpan → LSpan) (c54ok : LSpan → LSpan → Bool) (c62 : LSpan → LSpan → LSpan) (c62ok : LSpan → LSpan → Bool) (c68 : LSpan → LSpan → LSpan) (c68ok : LSpan → LSpan → Bool)  (s : LShape) (r : LRay) : evP tab M (shape_sphere.fns c131_2 c103 c132 c133 c134 c134ok c135 c135ok c136 c49 c49ok c53 c53ok c54 c54ok c62 c62ok c68 c68ok) noLoops 300 Tryz.f87 [s.val, r.val] = shape_sphere.k M c131_2 c103 c132 c133 c134 c134ok c135 c135ok c136 c49 c49ok c53 c53ok c54 c54ok c62 c62ok c68 c68ok  s r (fun r => some (r.val, [])) := by kernel_rfl
theorem shape_sphere.k_eq (M : Prims) (s : LShape) (r : LRay) (k : LHit → R) : shape_sphere.ok M s r = true → shape_sphere.k M (shape_all_s2 M) (span_Neg M) (shape_atLeast M) (span_Positive M) (shape_quad M) (shape_quad.ok M) (span_Sqr M) (span_Sqr.ok M) (shape_hit M) (span_Mul M) (span_Mul.ok M) (span_Sqrt M) (span_Sqrt.ok M) (span_Sub M) (span_Sub.ok M) (span_Add M) (span_Add.ok M) (span_Div M) (span_Div.ok M) s r k = k (shape_sphere M s r) := by
  unfold shape_sphere.ok shape_sphere.k shape_sphere
  exact kL (kL (kL (kL (kC (fun _ => rfl) (kL (kL (kL (kC (fun _ => rfl) (kL (kL (fun _ => rfl)))))))))))
theorem shape_sphere.call (s : LShape) (r : LRay) (h : shape_sphere.ok M0 s r = true) : PureOK Tryz.prog 87 [s.val, r.val] ((shape_sphere M0 s r).val) :=
  evP_sound (P := Tryz.prog) mixed tabOK shape_sphere.fnsOK Tryz.func87 rfl (Λ := noLoops) (c := Tryz.f87.body.getD .skip) rfl (noLoopsOK _) rfl (Nat.zero_le 1) rfl rfl ((shape_sphere.ev M0 (shape_all_s2 M0) (span_Neg M0) (shape_atLeast M0) (span_Positive M0) (shape_quad M0) (shape_quad.ok M0) (span_Sqr M0) (span_Sqr.ok M0) (shape_hit M0) (span_Mul M0) (span_Mul.ok M0) (span_Sqrt M0) (span_Sqrt.ok M0) (span_Sub M0) (span_Sub.ok M0) (span_Add M0) (span_Add.ok M0) (span_Div M0) (span_Div.ok M0) s r).trans (shape_sphere.k_eq M0 s r _ h))
def shape_sphere.ph (c87 : LShape → LRay → LHit) (c87ok : LShape → LRay → Bool) : Ph := fun args => match args with
  | [.agg ⟨[.int .i64 a0_0, .float .f64 a0_1, .float .f64 a0_2, .float .f64 a0_3, .float .f64 a0_4, .float .f64 a0_5, .float .f64 a0_6, .float .f64 a0_7, .float .f64 a0_8, .float .f64 a0_9, .float .f64 a0_10, .float .f64 a0_11, .float .f64 a0_12, .float .f64 a0_13, .float .f64 a0_14, .float .f64 a0_15, .float .f64 a0_16, .float .f64 a0_17, .float .f64 a0_18, .float .f64 a0_19, .float .f64 a0_20]⟩, .agg ⟨[.float .f64 a1_0, .float .f64 a1_1, .float .f64 a1_2, .float .f64 a1_3, .float .f64 a1_4, .float .f64 a1_5, .float .f64 a1_6, .float .f64 a1_7, .float .f64 a1_8, .float .f64 a1_9, .float .f64 a1_10, .float .f64 a1_11]⟩] => some (c87ok (⟨a0_0, ⟨⟨⟨a0_1, a0_2⟩, ⟨a0_3, a0_4⟩, ⟨a0_5, a0_6⟩⟩, ⟨⟨a0_7, a0_8⟩, ⟨a0_9, a0_10⟩, ⟨a0_11, a0_12⟩⟩, ⟨⟨a0_13, a0_14⟩, ⟨a0_15, a0_16⟩, ⟨a0_17, a0_18⟩⟩⟩, ⟨a0_19, a0_20⟩⟩ : LShape) (⟨⟨⟨a1_0, a1_1⟩, ⟨a1_2, a1_3⟩, ⟨a1_4, a1_5⟩⟩, ⟨⟨a1_6, a1_7⟩, ⟨a1_8, a1_9⟩, ⟨a1_10, a1_11⟩⟩⟩ : LRay), (c87 (⟨a0_0, ⟨⟨⟨a0_1, a0_2⟩, ⟨a0_3, a0_4⟩, ⟨a0_5, a0_6⟩⟩, ⟨⟨a0_7, a0_8⟩, ⟨a0_9, a0_10⟩, ⟨a0_11, a0_12⟩⟩, ⟨⟨a0_13, a0_14⟩, ⟨a0_15, a0_16⟩, ⟨a0_17, a0_18⟩⟩⟩, ⟨a0_19, a0_20⟩⟩ : LShape) (⟨⟨⟨a1_0, a1_1⟩, ⟨a1_2, a1_3⟩, ⟨a1_4, a1_5⟩⟩, ⟨⟨a1_6, a1_7⟩, ⟨a1_8, a1_9⟩, ⟨a1_10, a1_11⟩⟩⟩ : LRay)).val)
  | _ => none
theorem shape_sphere.phOK : PhOK Tryz.prog 87 (shape_sphere.ph (shape_sphere M0) (shape_sphere.ok M0)) := ⟨by
  intro args v h
  unfold shape_sphere.ph at h
  split at h
  · rename_i a0_0 a0_1 a0_2 a0_3 a0_4 a0_5 a0_6 a0_7 a0_8 a0_9 a0_10 a0_11 a0_12 a0_13 a0_14 a0_15 a0_16 a0_17 a0_18 a0_19 a0_20 a1_0 a1_1 a1_2 a1_3 a1_4 a1_5 a1_6 a1_7 a1_8 a1_9 a1_10 a1_11
    simp only [Option.some.injEq, Prod.mk.injEq] at h
    obtain ⟨hok, rfl⟩ := h
    exact ⟨rfl, rfl, shape_sphere.call (⟨a0_0, ⟨⟨⟨a0_1, a0_2⟩, ⟨a0_3, a0_4⟩, ⟨a0_5, a0_6⟩⟩, ⟨⟨a0_7, a0_8⟩, ⟨a0_9, a0_10⟩, ⟨a0_11, a0_12⟩⟩, ⟨⟨a0_13, a0_14⟩, ⟨a0_15, a0_16⟩, ⟨a0_17, a0_18⟩⟩⟩, ⟨a0_19, a0_20⟩⟩ : LShape) (⟨⟨⟨a1_0, a1_1⟩, ⟨a1_2, a1_3⟩, ⟨a1_4, a1_5⟩⟩, ⟨⟨a1_6, a1_7⟩, ⟨a1_8, a1_9⟩, ⟨a1_10, a1_11⟩⟩⟩ : LRay) hok⟩
  · cases h⟩
def shape_Meet.k (_ : Prims) (c86 : LShape → LRay → LHit) (c86ok : LShape → LRay → Bool) (c87 : LShape → LRay → LHit) (c87ok : LShape → LRay → Bool) (s : LShape) (r : LRay) (k : LHit → R) : R :=
  cond ((s.kind : Int) == 1)
    (cond (c86ok s r)
       (k (c86 s r))
       (none))
    (cond ((s.kind : Int) == 2)
       (cond (c87ok s r)
          (k (c87 s r))
          (none))
       (k (⟨0, (⟨0, 0⟩ : LSpan), (⟨0, 0⟩ : LSpan), (⟨0, 0⟩ : LSpan)⟩ : LHit)))
def shape_Meet (M : Prims) (s : LShape) (r : LRay) : LHit :=
  cond ((s.kind : Int) == 1)
    ((shape_triangle M s r))
    (cond ((s.kind : Int) == 2)
       ((shape_sphere M s r))
       ((⟨0, (⟨0, 0⟩ : LSpan), (⟨0, 0⟩ : LSpan), (⟨0, 0⟩ : LSpan)⟩ : LHit)))
def shape_Meet.ok (M : Prims) (s : LShape) (r : LRay) : Bool :=
  cond ((s.kind : Int) == 1)
    (cond (shape_triangle.ok M s r)
       (true)
       (false))
    (cond ((s.kind : Int) == 2)
       (cond (shape_sphere.ok M s r)
          (true)
          (false))
       (true))
def shape_Meet.fns (c86 : LShape → LRay → LHit) (c86ok : LShape → LRay → Bool) (c87 : LShape → LRay → LHit) (c87ok : LShape → LRay → Bool) : FuncId → List Value → Option (Bool × Value) := ifId 86 (shape_triangle.ph c86 c86ok) <| ifId 87 (shape_sphere.ph c87 c87ok) <| noFns
theorem shape_Meet.fnsOK : PureFns Tryz.prog (shape_Meet.fns (shape_triangle M0) (shape_triangle.ok M0) (shape_sphere M0) (shape_sphere.ok M0)) := ifIdOK shape_triangle.phOK <| ifIdOK shape_sphere.phOK <| noFnsOK
theorem shape_Meet.ev (M : Prims) (c86 : LShape → LRay → LHit) (c86ok : LShape → LRay → Bool) (c87 : LShape → LRay → LHit) (c87ok : LShape → LRay → Bool)  (s : LShape) (r : LRay) : evP tab M (shape_Meet.fns c86 c86ok c87 c87ok) noLoops 300 Tryz.f37 [s.val, r.val] = shape_Meet.k M c86 c86ok c87 c87ok  s r (fun r => some (r.val, [])) := by kernel_rfl
theorem shape_Meet.k_eq (M : Prims) (s : LShape) (r : LRay) (k : LHit → R) : shape_Meet.ok M s r = true → shape_Meet.k M (shape_triangle M) (shape_triangle.ok M) (shape_sphere M) (shape_sphere.ok M) s r k = k (shape_Meet M s r) := by
  unfold shape_Meet.ok shape_Meet.k shape_Meet
  exact kC (kL (fun _ => rfl)) (kC (kL (fun _ => rfl)) (fun _ => rfl))
theorem shape_Meet.call (s : LShape) (r : LRay) (h : shape_Meet.ok M0 s r = true) : PureOK Tryz.prog 37 [s.val, r.val] ((shape_Meet M0 s r).val) :=
  evP_sound (P := Tryz.prog) mixed tabOK shape_Meet.fnsOK Tryz.func37 rfl (Λ := noLoops) (c := Tryz.f37.body.getD .skip) rfl (noLoopsOK _) rfl (Nat.zero_le 1) rfl rfl ((shape_Meet.ev M0 (shape_triangle M0) (shape_triangle.ok M0) (shape_sphere M0) (shape_sphere.ok M0) s r).trans (shape_Meet.k_eq M0 s r _ h))
def shape_Meet.ph (c37 : LShape → LRay → LHit) (c37ok : LShape → LRay → Bool) : Ph := fun args => match args with
  | [.agg ⟨[.int .i64 a0_0, .float .f64 a0_1, .float .f64 a0_2, .float .f64 a0_3, .float .f64 a0_4, .float .f64 a0_5, .float .f64 a0_6, .float .f64 a0_7, .float .f64 a0_8, .float .f64 a0_9, .float .f64 a0_10, .float .f64 a0_11, .float .f64 a0_12, .float .f64 a0_13, .float .f64 a0_14, .float .f64 a0_15, .float .f64 a0_16, .float .f64 a0_17, .float .f64 a0_18, .float .f64 a0_19, .float .f64 a0_20]⟩, .agg ⟨[.float .f64 a1_0, .float .f64 a1_1, .float .f64 a1_2, .float .f64 a1_3, .float .f64 a1_4, .float .f64 a1_5, .float .f64 a1_6, .float .f64 a1_7, .float .f64 a1_8, .float .f64 a1_9, .float .f64 a1_10, .float .f64 a1_11]⟩] => some (c37ok (⟨a0_0, ⟨⟨⟨a0_1, a0_2⟩, ⟨a0_3, a0_4⟩, ⟨a0_5, a0_6⟩⟩, ⟨⟨a0_7, a0_8⟩, ⟨a0_9, a0_10⟩, ⟨a0_11, a0_12⟩⟩, ⟨⟨a0_13, a0_14⟩, ⟨a0_15, a0_16⟩, ⟨a0_17, a0_18⟩⟩⟩, ⟨a0_19, a0_20⟩⟩ : LShape) (⟨⟨⟨a1_0, a1_1⟩, ⟨a1_2, a1_3⟩, ⟨a1_4, a1_5⟩⟩, ⟨⟨a1_6, a1_7⟩, ⟨a1_8, a1_9⟩, ⟨a1_10, a1_11⟩⟩⟩ : LRay), (c37 (⟨a0_0, ⟨⟨⟨a0_1, a0_2⟩, ⟨a0_3, a0_4⟩, ⟨a0_5, a0_6⟩⟩, ⟨⟨a0_7, a0_8⟩, ⟨a0_9, a0_10⟩, ⟨a0_11, a0_12⟩⟩, ⟨⟨a0_13, a0_14⟩, ⟨a0_15, a0_16⟩, ⟨a0_17, a0_18⟩⟩⟩, ⟨a0_19, a0_20⟩⟩ : LShape) (⟨⟨⟨a1_0, a1_1⟩, ⟨a1_2, a1_3⟩, ⟨a1_4, a1_5⟩⟩, ⟨⟨a1_6, a1_7⟩, ⟨a1_8, a1_9⟩, ⟨a1_10, a1_11⟩⟩⟩ : LRay)).val)
  | _ => none
theorem shape_Meet.phOK : PhOK Tryz.prog 37 (shape_Meet.ph (shape_Meet M0) (shape_Meet.ok M0)) := ⟨by
  intro args v h
  unfold shape_Meet.ph at h
  split at h
  · rename_i a0_0 a0_1 a0_2 a0_3 a0_4 a0_5 a0_6 a0_7 a0_8 a0_9 a0_10 a0_11 a0_12 a0_13 a0_14 a0_15 a0_16 a0_17 a0_18 a0_19 a0_20 a1_0 a1_1 a1_2 a1_3 a1_4 a1_5 a1_6 a1_7 a1_8 a1_9 a1_10 a1_11
    simp only [Option.some.injEq, Prod.mk.injEq] at h
    obtain ⟨hok, rfl⟩ := h
    exact ⟨rfl, rfl, shape_Meet.call (⟨a0_0, ⟨⟨⟨a0_1, a0_2⟩, ⟨a0_3, a0_4⟩, ⟨a0_5, a0_6⟩⟩, ⟨⟨a0_7, a0_8⟩, ⟨a0_9, a0_10⟩, ⟨a0_11, a0_12⟩⟩, ⟨⟨a0_13, a0_14⟩, ⟨a0_15, a0_16⟩, ⟨a0_17, a0_18⟩⟩⟩, ⟨a0_19, a0_20⟩⟩ : LShape) (⟨⟨⟨a1_0, a1_1⟩, ⟨a1_2, a1_3⟩, ⟨a1_4, a1_5⟩⟩, ⟨⟨a1_6, a1_7⟩, ⟨a1_8, a1_9⟩, ⟨a1_10, a1_11⟩⟩⟩ : LRay) hok⟩
  · cases h⟩
def lanternlaw10_Ball.k (_ : Prims) (c52 : Nat → LSpan) (c85 : LTriple → LV3) (c : LTriple) (r : Nat) (k : LShape → R) : R :=
  k (⟨2, (⟨(c85 c), (⟨(⟨0, 0⟩ : LSpan), (⟨0, 0⟩ : LSpan), (⟨0, 0⟩ : LSpan)⟩ : LV3), (⟨(⟨0, 0⟩ : LSpan), (⟨0, 0⟩ : LSpan), (⟨0, 0⟩ : LSpan)⟩ : LV3)⟩ : LA3V3), (c52 r)⟩ : LShape)
def lanternlaw10_Ball (M : Prims) (c : LTriple) (r : Nat) : LShape :=
  (⟨2, (⟨(lanternref03_Of M c), (⟨(⟨0, 0⟩ : LSpan), (⟨0, 0⟩ : LSpan), (⟨0, 0⟩ : LSpan)⟩ : LV3), (⟨(⟨0, 0⟩ : LSpan), (⟨0, 0⟩ : LSpan), (⟨0, 0⟩ : LSpan)⟩ : LV3)⟩ : LA3V3), (lanternref02_Of M r)⟩ : LShape)
def lanternlaw10_Ball.fns (c52 : Nat → LSpan) (c85 : LTriple → LV3) : FuncId → List Value → Option (Bool × Value) := ifId 52 (lanternref02_Of.ph c52) <| ifId 85 (lanternref03_Of.ph c85) <| noFns
theorem lanternlaw10_Ball.fnsOK : PureFns Tryz.prog (lanternlaw10_Ball.fns (lanternref02_Of M0) (lanternref03_Of M0)) := ifIdOK lanternref02_Of.phOK <| ifIdOK lanternref03_Of.phOK <| noFnsOK
theorem lanternlaw10_Ball.ev (M : Prims) (c52 : Nat → LSpan) (c85 : LTriple → LV3)  (c : LTriple) (r : Nat) : evP tab M (lanternlaw10_Ball.fns c52 c85) noLoops 300 Tryz.f39 [c.val, (.float .f64 r)] = lanternlaw10_Ball.k M c52 c85  c r (fun r => some (r.val, [])) := by kernel_rfl
theorem lanternlaw10_Ball.k_eq (M : Prims) (c : LTriple) (r : Nat) (k : LShape → R) : lanternlaw10_Ball.k M (lanternref02_Of M) (lanternref03_Of M) c r k = k (lanternlaw10_Ball M c r) := by
  unfold lanternlaw10_Ball.k lanternlaw10_Ball
  exact rfl
theorem lanternlaw10_Ball.call (c : LTriple) (r : Nat) : PureOK Tryz.prog 39 [c.val, (.float .f64 r)] ((lanternlaw10_Ball M0 c r).val) :=
  evP_sound (P := Tryz.prog) mixed tabOK lanternlaw10_Ball.fnsOK Tryz.func39 rfl (Λ := noLoops) (c := Tryz.f39.body.getD .skip) rfl (noLoopsOK _) rfl (Nat.zero_le 1) rfl rfl ((lanternlaw10_Ball.ev M0 (lanternref02_Of M0) (lanternref03_Of M0) c r).trans (lanternlaw10_Ball.k_eq M0 c r _))
def lanternlaw10_Ball.ph (c39 : LTriple → Nat → LShape) : Ph := fun args => match args with
  | [.agg ⟨[.float .f64 a0_0, .float .f64 a0_1, .float .f64 a0_2]⟩, .float .f64 a1_] => some (true, (c39 (⟨a0_0, a0_1, a0_2⟩ : LTriple) a1_).val)
  | _ => none
theorem lanternlaw10_Ball.phOK : PhOK Tryz.prog 39 (lanternlaw10_Ball.ph (lanternlaw10_Ball M0)) := ⟨by
  intro args v h
  unfold lanternlaw10_Ball.ph at h
  split at h
  · rename_i a0_0 a0_1 a0_2 a1_
    simp only [Option.some.injEq, Prod.mk.injEq, true_and] at h
    subst h
    exact ⟨rfl, rfl, lanternlaw10_Ball.call (⟨a0_0, a0_1, a0_2⟩ : LTriple) a1_⟩
  · cases h⟩
def lanternlaw10_Awake.k (M : Prims) (c36 : LTriple → LTriple → LTriple → LShape) (c37 : LShape → LRay → LHit) (c37ok : LShape → LRay → Bool) (c38 : LTriple → LTriple → LRay) (c39 : LTriple → Nat → LShape) (k : Bool → R) : R :=
  let x1 := c36 (⟨0, 0, 0⟩ : LTriple) (⟨4607182418800017408, 0, 0⟩ : LTriple) (⟨0, 4607182418800017408, 0⟩ : LTriple)
  let x2 := c38 (⟨4598175219545276416, 4598175219545276416, 4607182418800017408⟩ : LTriple) (⟨0, 0, 13830554455654793216⟩ : LTriple)
  let x3 := c37 x1 x2
  cond (c37ok x1 x2)
    (let x4 := c39 (⟨0, 0, 0⟩ : LTriple) 4607182418800017408
     let x5 := c38 (⟨0, 0, 4613937818241073152⟩ : LTriple) (⟨0, 0, 13830554455654793216⟩ : LTriple)
     let x6 := c37 x4 x5
     cond (c37ok x4 x5)
       (cond ((x3.answer : Int) == 1)
          (cond (M.eq x3.t.lo 4607182418800017408 && (M.eq x3.t.hi 4607182418800017408 && true))
             (cond ((x6.answer : Int) == 1)
                (k (M.eq x6.t.lo 4611686018427387904 && (M.eq x6.t.hi 4611686018427387904 && true)))
                (k false))
             (k false))
          (k false))
       (none))
    (none)
def lanternlaw10_Awake (M : Prims) : Bool :=
  let x3 := shape_Meet M (lanternlaw10_Tri M (⟨0, 0, 0⟩ : LTriple) (⟨4607182418800017408, 0, 0⟩ : LTriple) (⟨0, 4607182418800017408, 0⟩ : LTriple)) (lanternlaw10_Beam M (⟨4598175219545276416, 4598175219545276416, 4607182418800017408⟩ : LTriple) (⟨0, 0, 13830554455654793216⟩ : LTriple))
  let x6 := shape_Meet M (lanternlaw10_Ball M (⟨0, 0, 0⟩ : LTriple) 4607182418800017408) (lanternlaw10_Beam M (⟨0, 0, 4613937818241073152⟩ : LTriple) (⟨0, 0, 13830554455654793216⟩ : LTriple))
  cond ((x3.answer : Int) == 1)
    (cond (M.eq x3.t.lo 4607182418800017408 && (M.eq x3.t.hi 4607182418800017408 && true))
       (cond ((x6.answer : Int) == 1)
          ((M.eq x6.t.lo 4611686018427387904 && (M.eq x6.t.hi 4611686018427387904 && true)))
          (false))
       (false))
    (false)
def lanternlaw10_Awake.ok (M : Prims) : Bool :=
  cond (shape_Meet.ok M (lanternlaw10_Tri M (⟨0, 0, 0⟩ : LTriple) (⟨4607182418800017408, 0, 0⟩ : LTriple) (⟨0, 4607182418800017408, 0⟩ : LTriple)) (lanternlaw10_Beam M (⟨4598175219545276416, 4598175219545276416, 4607182418800017408⟩ : LTriple) (⟨0, 0, 13830554455654793216⟩ : LTriple)))
    (cond (shape_Meet.ok M (lanternlaw10_Ball M (⟨0, 0, 0⟩ : LTriple) 4607182418800017408) (lanternlaw10_Beam M (⟨0, 0, 4613937818241073152⟩ : LTriple) (⟨0, 0, 13830554455654793216⟩ : LTriple)))
       (true)
       (false))
    (false)
def lanternlaw10_Awake.fns (c36 : LTriple → LTriple → LTriple → LShape) (c37 : LShape → LRay → LHit) (c37ok : LShape → LRay → Bool) (c38 : LTriple → LTriple → LRay) (c39 : LTriple → Nat → LShape) : FuncId → List Value → Option (Bool × Value) := ifId 36 (lanternlaw10_Tri.ph c36) <| ifId 37 (shape_Meet.ph c37 c37ok) <| ifId 38 (lanternlaw10_Beam.ph c38) <| ifId 39 (lanternlaw10_Ball.ph c39) <| noFns
theorem lanternlaw10_Awake.fnsOK : PureFns Tryz.prog (lanternlaw10_Awake.fns (lanternlaw10_Tri M0) (shape_Meet M0) (shape_Meet.ok M0) (lanternlaw10_Beam M0) (lanternlaw10_Ball M0)) := ifIdOK lanternlaw10_Tri.phOK <| ifIdOK shape_Meet.phOK <| ifIdOK lanternlaw10_Beam.phOK <| ifIdOK lanternlaw10_Ball.phOK <| noFnsOK
theorem lanternlaw10_Awake.ev (M : Prims) (c36 : LTriple → LTriple → LTriple → LShape) (c37 : LShape → LRay → LHit) (c37ok : LShape → LRay → Bool) (c38 : LTriple → LTriple → LRay) (c39 : LTriple → Nat → LShape)   : evP tab M (lanternlaw10_Awake.fns c36 c37 c37ok c38 c39) noLoops 300 Tryz.f9 [] = lanternlaw10_Awake.k M c36 c37 c37ok c38 c39   (fun r => some ((.bool r), [])) := by kernel_rfl
theorem lanternlaw10_Awake.k_eq (M : Prims)  (k : Bool → R) : lanternlaw10_Awake.ok M  = true → lanternlaw10_Awake.k M (lanternlaw10_Tri M) (shape_Meet M) (shape_Meet.ok M) (lanternlaw10_Beam M) (lanternlaw10_Ball M)  k = k (lanternlaw10_Awake M ) := by
  unfold lanternlaw10_Awake.ok lanternlaw10_Awake.k lanternlaw10_Awake
  exact kL (kL (fun _ => pC (pC (pC rfl rfl) rfl) rfl))
theorem lanternlaw10_Awake.call  (h : lanternlaw10_Awake.ok M0  = true) : PureOK Tryz.prog 9 [] (.bool (lanternlaw10_Awake M0 )) :=
  evP_sound (P := Tryz.prog) mixed tabOK lanternlaw10_Awake.fnsOK Tryz.func9 rfl (Λ := noLoops) (c := Tryz.f9.body.getD .skip) rfl (noLoopsOK _) rfl (Nat.zero_le 1) rfl rfl ((lanternlaw10_Awake.ev M0 (lanternlaw10_Tri M0) (shape_Meet M0) (shape_Meet.ok M0) (lanternlaw10_Beam M0) (lanternlaw10_Ball M0) ).trans (lanternlaw10_Awake.k_eq M0  _ h))
def lanternlaw10_Awake.ph (c9 : Bool) (c9ok : Bool) : Ph := fun args => match args with
  | [] => some (c9ok, (.bool (c9)))
  | _ => none
theorem lanternlaw10_Awake.phOK : PhOK Tryz.prog 9 (lanternlaw10_Awake.ph (lanternlaw10_Awake M0) (lanternlaw10_Awake.ok M0)) := ⟨by
  intro args v h
  unfold lanternlaw10_Awake.ph at h
  split at h
  · simp only [Option.some.injEq, Prod.mk.injEq] at h
    obtain ⟨hok, rfl⟩ := h
    exact ⟨rfl, rfl, lanternlaw10_Awake.call  hok⟩
  · cases h⟩
def lanternref02_minus.k (M : Prims) (c48 : Nat → Int) (c48ok : Nat → Bool) (x : Nat) (k : Bool → R) : R :=
  cond (M.eq x 0)
    (cond (c48ok x)
       (k (((c48 x) : Int) != 0))
       (none))
    (k false)
def lanternref02_minus (M : Prims) (x : Nat) : Bool :=
  cond (M.eq x 0)
    ((((f64bits x) : Int) != 0))
    (false)
def lanternref02_minus.ok (M : Prims) (x : Nat) : Bool :=
  cond (M.eq x 0)
    (cond (f64bits.ok x)
       (true)
       (false))
    (true)
def lanternref02_minus.fns (c48 : Nat → Int) (c48ok : Nat → Bool) : FuncId → List Value → Option (Bool × Value) := ifId 48 (f64bits.ph c48 c48ok) <| noFns
theorem lanternref02_minus.fnsOK : PureFns Tryz.prog (lanternref02_minus.fns f64bits f64bits.ok) := ifIdOK f64bits.phOK <| noFnsOK
theorem lanternref02_minus.ev (M : Prims) (c48 : Nat → Int) (c48ok : Nat → Bool)  (x : Nat) : evP tab M (lanternref02_minus.fns c48 c48ok) noLoops 300 Tryz.f66 [(.float .f64 x)] = lanternref02_minus.k M c48 c48ok  x (fun r => some ((.bool r), [])) := by kernel_rfl
theorem lanternref02_minus.k_eq (M : Prims) (x : Nat) (k : Bool → R) : lanternref02_minus.ok M x = true → lanternref02_minus.k M f64bits f64bits.ok x k = k (lanternref02_minus M x) := by
  unfold lanternref02_minus.ok lanternref02_minus.k lanternref02_minus
  exact kC (kL (fun _ => rfl)) (fun _ => rfl)
theorem lanternref02_minus.call (x : Nat) (h : lanternref02_minus.ok M0 x = true) : PureOK Tryz.prog 66 [(.float .f64 x)] (.bool (lanternref02_minus M0 x)) :=
  evP_sound (P := Tryz.prog) mixed tabOK lanternref02_minus.fnsOK Tryz.func66 rfl (Λ := noLoops) (c := Tryz.f66.body.getD .skip) rfl (noLoopsOK _) rfl (Nat.zero_le 1) rfl rfl ((lanternref02_minus.ev M0 f64bits f64bits.ok x).trans (lanternref02_minus.k_eq M0 x _ h))
def lanternref02_minus.ph (c66 : Nat → Bool) (c66ok : Nat → Bool) : Ph := fun args => match args with
  | [.float .f64 a0_] => some (c66ok a0_, (.bool (c66 a0_)))
  | _ => none
theorem lanternref02_minus.phOK : PhOK Tryz.prog 66 (lanternref02_minus.ph (lanternref02_minus M0) (lanternref02_minus.ok M0)) := ⟨by
  intro args v h
  unfold lanternref02_minus.ph at h
  split at h
  · rename_i a0_
    simp only [Option.some.injEq, Prod.mk.injEq] at h
    obtain ⟨hok, rfl⟩ := h
    exact ⟨rfl, rfl, lanternref02_minus.call a0_ hok⟩
  · cases h⟩
def lanternref02_Valid.k (M : Prims) (c65 : Nat) (c66 : Nat → Bool) (c66ok : Nat → Bool) (a : LSpan) (k : Bool → R) : R :=
  cond (M.le a.lo a.hi)
    (cond (M.ne a.lo c65)
       (cond (M.ne a.hi (M.neg c65))
          (cond (c66ok a.lo)
             (cond (!(c66 a.lo))
                (cond (c66ok a.hi)
                   (k (!(c66 a.hi)))
                   (none))
                (k false))
             (none))
          (k false))
       (k false))
    (k false)
def lanternref02_Valid (M : Prims) (a : LSpan) : Bool :=
  cond (M.le a.lo a.hi)
    (cond (M.ne a.lo (lanternref01_Inf M))
       (cond (M.ne a.hi (M.neg (lanternref01_Inf M)))
          (cond (!(lanternref02_minus M a.lo))
             ((!(lanternref02_minus M a.hi)))
             (false))
          (false))
       (false))
    (false)
def lanternref02_Valid.ok (M : Prims) (a : LSpan) : Bool :=
  cond (M.le a.lo a.hi)
    (cond (M.ne a.lo (lanternref01_Inf M))
       (cond (M.ne a.hi (M.neg (lanternref01_Inf M)))
          (cond (lanternref02_minus.ok M a.lo)
             (cond (!(lanternref02_minus M a.lo))
                (cond (lanternref02_minus.ok M a.hi)
                   (true)
                   (false))
                (true))
             (false))
          (true))
       (true))
    (true)
def lanternref02_Valid.fns (c65 : Nat) (c66 : Nat → Bool) (c66ok : Nat → Bool) : FuncId → List Value → Option (Bool × Value) := ifId 65 (lanternref01_Inf.ph c65) <| ifId 66 (lanternref02_minus.ph c66 c66ok) <| noFns
theorem lanternref02_Valid.fnsOK : PureFns Tryz.prog (lanternref02_Valid.fns (lanternref01_Inf M0) (lanternref02_minus M0) (lanternref02_minus.ok M0)) := ifIdOK lanternref01_Inf.phOK <| ifIdOK lanternref02_minus.phOK <| noFnsOK
theorem lanternref02_Valid.ev (M : Prims) (c65 : Nat) (c66 : Nat → Bool) (c66ok : Nat → Bool)  (a : LSpan) : evP tab M (lanternref02_Valid.fns c65 c66 c66ok) noLoops 300 Tryz.f24 [a.val] = lanternref02_Valid.k M c65 c66 c66ok  a (fun r => some ((.bool r), [])) := by kernel_rfl
theorem lanternref02_Valid.k_eq (M : Prims) (a : LSpan) (k : Bool → R) : lanternref02_Valid.ok M a = true → lanternref02_Valid.k M (lanternref01_Inf M) (lanternref02_minus M) (lanternref02_minus.ok M) a k = k (lanternref02_Valid M a) := by
  unfold lanternref02_Valid.ok lanternref02_Valid.k lanternref02_Valid
  exact kC (kC (kC (kL (kC (kL (fun _ => rfl)) (fun _ => rfl))) (fun _ => rfl)) (fun _ => rfl)) (fun _ => rfl)
theorem lanternref02_Valid.call (a : LSpan) (h : lanternref02_Valid.ok M0 a = true) : PureOK Tryz.prog 24 [a.val] (.bool (lanternref02_Valid M0 a)) :=
  evP_sound (P := Tryz.prog) mixed tabOK lanternref02_Valid.fnsOK Tryz.func24 rfl (Λ := noLoops) (c := Tryz.f24.body.getD .skip) rfl (noLoopsOK _) rfl (Nat.zero_le 1) rfl rfl ((lanternref02_Valid.ev M0 (lanternref01_Inf M0) (lanternref02_minus M0) (lanternref02_minus.ok M0) a).trans (lanternref02_Valid.k_eq M0 a _ h))
def lanternref02_Valid.ph (c24 : LSpan → Bool) (c24ok : LSpan → Bool) : Ph := fun args => match args with
  | [.agg ⟨[.float .f64 a0_0, .float .f64 a0_1]⟩] => some (c24ok (⟨a0_0, a0_1⟩ : LSpan), (.bool (c24 (⟨a0_0, a0_1⟩ : LSpan))))
  | _ => none
theorem lanternref02_Valid.phOK : PhOK Tryz.prog 24 (lanternref02_Valid.ph (lanternref02_Valid M0) (lanternref02_Valid.ok M0)) := ⟨by
  intro args v h
  unfold lanternref02_Valid.ph at h
  split at h
  · rename_i a0_0 a0_1
    simp only [Option.some.injEq, Prod.mk.injEq] at h
    obtain ⟨hok, rfl⟩ := h
    exact ⟨rfl, rfl, lanternref02_Valid.call (⟨a0_0, a0_1⟩ : LSpan) hok⟩
  · cases h⟩
def lanternref03_Valid.k (_ : Prims) (c24 : LSpan → Bool) (c24ok : LSpan → Bool) (a : LV3) (k : Bool → R) : R :=
  cond (c24ok a.p0)
    (cond (c24 a.p0)
       (cond (c24ok a.p1)
          (cond (c24 a.p1)
             (cond (c24ok a.p2)
                (k (c24 a.p2))
                (none))
             (k false))
          (none))
       (k false))
    (none)
def lanternref03_Valid (M : Prims) (a : LV3) : Bool :=
  cond (lanternref02_Valid M a.p0)
    (cond (lanternref02_Valid M a.p1)
       ((lanternref02_Valid M a.p2))
       (false))
    (false)
def lanternref03_Valid.ok (M : Prims) (a : LV3) : Bool :=
  cond (lanternref02_Valid.ok M a.p0)
    (cond (lanternref02_Valid M a.p0)
       (cond (lanternref02_Valid.ok M a.p1)
          (cond (lanternref02_Valid M a.p1)
             (cond (lanternref02_Valid.ok M a.p2)
                (true)
                (false))
             (true))
          (false))
       (true))
    (false)
def lanternref03_Valid.fns (c24 : LSpan → Bool) (c24ok : LSpan → Bool) : FuncId → List Value → Option (Bool × Value) := ifId 24 (lanternref02_Valid.ph c24 c24ok) <| noFns
theorem lanternref03_Valid.fnsOK : PureFns Tryz.prog (lanternref03_Valid.fns (lanternref02_Valid M0) (lanternref02_Valid.ok M0)) := ifIdOK lanternref02_Valid.phOK <| noFnsOK
theorem lanternref03_Valid.ev (M : Prims) (c24 : LSpan → Bool) (c24ok : LSpan → Bool)  (a : LV3) : evP tab M (lanternref03_Valid.fns c24 c24ok) noLoops 300 Tryz.f11 [a.val] = lanternref03_Valid.k M c24 c24ok  a (fun r => some ((.bool r), [])) := by kernel_rfl
theorem lanternref03_Valid.k_eq (M : Prims) (a : LV3) (k : Bool → R) : lanternref03_Valid.ok M a = true → lanternref03_Valid.k M (lanternref02_Valid M) (lanternref02_Valid.ok M) a k = k (lanternref03_Valid M a) := by
  unfold lanternref03_Valid.ok lanternref03_Valid.k lanternref03_Valid
  exact kL (kC (kL (kC (kL (fun _ => rfl)) (fun _ => rfl))) (fun _ => rfl))
theorem lanternref03_Valid.call (a : LV3) (h : lanternref03_Valid.ok M0 a = true) : PureOK Tryz.prog 11 [a.val] (.bool (lanternref03_Valid M0 a)) :=
  evP_sound (P := Tryz.prog) mixed tabOK lanternref03_Valid.fnsOK Tryz.func11 rfl (Λ := noLoops) (c := Tryz.f11.body.getD .skip) rfl (noLoopsOK _) rfl (Nat.zero_le 1) rfl rfl ((lanternref03_Valid.ev M0 (lanternref02_Valid M0) (lanternref02_Valid.ok M0) a).trans (lanternref03_Valid.k_eq M0 a _ h))
def lanternref03_Valid.ph (c11 : LV3 → Bool) (c11ok : LV3 → Bool) : Ph := fun args => match args with
  | [.agg ⟨[.float .f64 a0_0, .float .f64 a0_1, .float .f64 a0_2, .float .f64 a0_3, .float .f64 a0_4, .float .f64 a0_5]⟩] => some (c11ok (⟨⟨a0_0, a0_1⟩, ⟨a0_2, a0_3⟩, ⟨a0_4, a0_5⟩⟩ : LV3), (.bool (c11 (⟨⟨a0_0, a0_1⟩, ⟨a0_2, a0_3⟩, ⟨a0_4, a0_5⟩⟩ : LV3))))
  | _ => none
theorem lanternref03_Valid.phOK : PhOK Tryz.prog 11 (lanternref03_Valid.ph (lanternref03_Valid M0) (lanternref03_Valid.ok M0)) := ⟨by
  intro args v h
  unfold lanternref03_Valid.ph at h
  split at h
  · rename_i a0_0 a0_1 a0_2 a0_3 a0_4 a0_5
    simp only [Option.some.injEq, Prod.mk.injEq] at h
    obtain ⟨hok, rfl⟩ := h
    exact ⟨rfl, rfl, lanternref03_Valid.call (⟨⟨a0_0, a0_1⟩, ⟨a0_2, a0_3⟩, ⟨a0_4, a0_5⟩⟩ : LV3) hok⟩
  · cases h⟩
def lanternref10_Valid.k (_ : Prims) (c11 : LV3 → Bool) (c11ok : LV3 → Bool) (c24 : LSpan → Bool) (c24ok : LSpan → Bool) (s : LShape) (k : Bool → R) : R :=
  cond ((s.kind : Int) == 1)
    (cond (c11ok s.p.p0)
       (cond (c11 s.p.p0)
          (cond (c11ok s.p.p1)
             (cond (c11 s.p.p1)
                (cond (c11ok s.p.p2)
                   (cond (c11 s.p.p2)
                      (cond (c24ok s.r)
                         (k (c24 s.r))
                         (none))
                      (k false))
                   (none))
                (k false))
             (none))
          (k false))
       (none))
    (cond ((s.kind : Int) == 2)
       (cond (c11ok s.p.p0)
          (cond (c11 s.p.p0)
             (cond (c11ok s.p.p1)
                (cond (c11 s.p.p1)
                   (cond (c11ok s.p.p2)
                      (cond (c11 s.p.p2)
                         (cond (c24ok s.r)
                            (k (c24 s.r))
                            (none))
                         (k false))
                      (none))
                   (k false))
                (none))
             (k false))
          (none))
       (k false))
def lanternref10_Valid (M : Prims) (s : LShape) : Bool :=
  cond ((s.kind : Int) == 1)
    (cond (lanternref03_Valid M s.p.p0)
       (cond (lanternref03_Valid M s.p.p1)
          (cond (lanternref03_Valid M s.p.p2)
             ((lanternref02_Valid M s.r))
             (false))
          (false))
       (false))
    (cond ((s.kind : Int) == 2)
       (cond (lanternref03_Valid M s.p.p0)
          (cond (lanternref03_Valid M s.p.p1)
             (cond (lanternref03_Valid M s.p.p2)
                ((lanternref02_Valid M s.r))
                (false))
             (false))
          (false))
       (false))
def lanternref10_Valid.ok (M : Prims) (s : LShape) : Bool :=
  cond ((s.kind : Int) == 1)
    (cond (lanternref03_Valid.ok M s.p.p0)
       (cond (lanternref03_Valid M s.p.p0)
          (cond (lanternref03_Valid.ok M s.p.p1)
             (cond (lanternref03_Valid M s.p.p1)
                (cond (lanternref03_Valid.ok M s.p.p2)
                   (cond (lanternref03_Valid M s.p.p2)
                      (cond (lanternref02_Valid.ok M s.r)
                         (true)
                         (false))
                      (true))
                   (false))
                (true))
             (false))
          (true))
       (false))
    (cond ((s.kind : Int) == 2)
       (cond (lanternref03_Valid.ok M s.p.p0)
          (cond (lanternref03_Valid M s.p.p0)
             (cond (lanternref03_Valid.ok M s.p.p1)
                (cond (lanternref03_Valid M s.p.p1)
                   (cond (lanternref03_Valid.ok M s.p.p2)
                      (cond (lanternref03_Valid M s.p.p2)
                         (cond (lanternref02_Valid.ok M s.r)
                            (true)
                            (false))
                         (true))
                      (false))
                   (true))
                (false))
             (true))
          (false))
       (true))
def lanternref10_Valid.fns (c11 : LV3 → Bool) (c11ok : LV3 → Bool) (c24 : LSpan → Bool) (c24ok : LSpan → Bool) : FuncId → List Value → Option (Bool × Value) := ifId 11 (lanternref03_Valid.ph c11 c11ok) <| ifId 24 (lanternref02_Valid.ph c24 c24ok) <| noFns
theorem lanternref10_Valid.fnsOK : PureFns Tryz.prog (lanternref10_Valid.fns (lanternref03_Valid M0) (lanternref03_Valid.ok M0) (lanternref02_Valid M0) (lanternref02_Valid.ok M0)) := ifIdOK lanternref03_Valid.phOK <| ifIdOK lanternref02_Valid.phOK <| noFnsOK
theorem lanternref10_Valid.ev (M : Prims) (c11 : LV3 → Bool) (c11ok : LV3 → Bool) (c24 : LSpan → Bool) (c24ok : LSpan → Bool)  (s : LShape) : evP tab M (lanternref10_Valid.fns c11 c11ok c24 c24ok) noLoops 300 Tryz.f10 [s.val] = lanternref10_Valid.k M c11 c11ok c24 c24ok  s (fun r => some ((.bool r), [])) := by kernel_rfl
theorem lanternref10_Valid.k_eq (M : Prims) (s : LShape) (k : Bool → R) : lanternref10_Valid.ok M s = true → lanternref10_Valid.k M (lanternref03_Valid M) (lanternref03_Valid.ok M) (lanternref02_Valid M) (lanternref02_Valid.ok M) s k = k (lanternref10_Valid M s) := by
  unfold lanternref10_Valid.ok lanternref10_Valid.k lanternref10_Valid
  exact kC (kL (kC (kL (kC (kL (kC (kL (fun _ => rfl)) (fun _ => rfl))) (fun _ => rfl))) (fun _ => rfl))) (kC (kL (kC (kL (kC (kL (kC (kL (fun _ => rfl)) (fun _ => rfl))) (fun _ => rfl))) (fun _ => rfl))) (fun _ => rfl))
theorem lanternref10_Valid.call (s : LShape) (h : lanternref10_Valid.ok M0 s = true) : PureOK Tryz.prog 10 [s.val] (.bool (lanternref10_Valid M0 s)) :=
  evP_sound (P := Tryz.prog) mixed tabOK lanternref10_Valid.fnsOK Tryz.func10 rfl (Λ := noLoops) (c := Tryz.f10.body.getD .skip) rfl (noLoopsOK _) rfl (Nat.zero_le 1) rfl rfl ((lanternref10_Valid.ev M0 (lanternref03_Valid M0) (lanternref03_Valid.ok M0) (lanternref02_Valid M0) (lanternref02_Valid.ok M0) s).trans (lanternref10_Valid.k_eq M0 s _ h))
def lanternref10_Valid.ph (c10 : LShape → Bool) (c10ok : LShape → Bool) : Ph := fun args => match args with
  | [.agg ⟨[.int .i64 a0_0, .float .f64 a0_1, .float .f64 a0_2, .float .f64 a0_3, .float .f64 a0_4, .float .f64 a0_5, .float .f64 a0_6, .float .f64 a0_7, .float .f64 a0_8, .float .f64 a0_9, .float .f64 a0_10, .float .f64 a0_11, .float .f64 a0_12, .float .f64 a0_13, .float .f64 a0_14, .float .f64 a0_15, .float .f64 a0_16, .float .f64 a0_17, .float .f64 a0_18, .float .f64 a0_19, .float .f64 a0_20]⟩] => some (c10ok (⟨a0_0, ⟨⟨⟨a0_1, a0_2⟩, ⟨a0_3, a0_4⟩, ⟨a0_5, a0_6⟩⟩, ⟨⟨a0_7, a0_8⟩, ⟨a0_9, a0_10⟩, ⟨a0_11, a0_12⟩⟩, ⟨⟨a0_13, a0_14⟩, ⟨a0_15, a0_16⟩, ⟨a0_17, a0_18⟩⟩⟩, ⟨a0_19, a0_20⟩⟩ : LShape), (.bool (c10 (⟨a0_0, ⟨⟨⟨a0_1, a0_2⟩, ⟨a0_3, a0_4⟩, ⟨a0_5, a0_6⟩⟩, ⟨⟨a0_7, a0_8⟩, ⟨a0_9, a0_10⟩, ⟨a0_11, a0_12⟩⟩, ⟨⟨a0_13, a0_14⟩, ⟨a0_15, a0_16⟩, ⟨a0_17, a0_18⟩⟩⟩, ⟨a0_19, a0_20⟩⟩ : LShape))))
  | _ => none
theorem lanternref10_Valid.phOK : PhOK Tryz.prog 10 (lanternref10_Valid.ph (lanternref10_Valid M0) (lanternref10_Valid.ok M0)) := ⟨by
  intro args v h
  unfold lanternref10_Valid.ph at h
  split at h
  · rename_i a0_0 a0_1 a0_2 a0_3 a0_4 a0_5 a0_6 a0_7 a0_8 a0_9 a0_10 a0_11 a0_12 a0_13 a0_14 a0_15 a0_16 a0_17 a0_18 a0_19 a0_20
    simp only [Option.some.injEq, Prod.mk.injEq] at h
    obtain ⟨hok, rfl⟩ := h
    exact ⟨rfl, rfl, lanternref10_Valid.call (⟨a0_0, ⟨⟨⟨a0_1, a0_2⟩, ⟨a0_3, a0_4⟩, ⟨a0_5, a0_6⟩⟩, ⟨⟨a0_7, a0_8⟩, ⟨a0_9, a0_10⟩, ⟨a0_11, a0_12⟩⟩, ⟨⟨a0_13, a0_14⟩, ⟨a0_15, a0_16⟩, ⟨a0_17, a0_18⟩⟩⟩, ⟨a0_19, a0_20⟩⟩ : LShape) hok⟩
  · cases h⟩
def vec_Unit.k (_ : Prims) (c53 : LSpan → LSpan) (c53ok : LSpan → Bool) (c68 : LSpan → LSpan → LSpan) (c68ok : LSpan → LSpan → Bool) (c88 : LV3 → LSpan) (c88ok : LV3 → Bool) (a : LV3) (k : LV3 × LSpan → R) : R :=
  let x1 := c88 a
  cond (c88ok a)
    (let x2 := c53 x1
     cond (c53ok x1)
       (cond (c68ok a.p0 x2)
          (cond (c68ok a.p1 x2)
             (cond (c68ok a.p2 x2)
                (k ((⟨(c68 a.p0 x2), (c68 a.p1 x2), (c68 a.p2 x2)⟩ : LV3), x2))
                (none))
             (none))
          (none))
       (none))
    (none)
def vec_Unit (M : Prims) (a : LV3) : LV3 × LSpan :=
  let x2 := span_Sqrt M (vec_Sqr M a)
  ((⟨(span_Div M a.p0 x2), (span_Div M a.p1 x2), (span_Div M a.p2 x2)⟩ : LV3), x2)
def vec_Unit.ok (M : Prims) (a : LV3) : Bool :=
  let x1 := vec_Sqr M a
  cond (vec_Sqr.ok M a)
    (let x2 := span_Sqrt M x1
     cond (span_Sqrt.ok M x1)
       (cond (span_Div.ok M a.p0 x2)
          (cond (span_Div.ok M a.p1 x2)
             (cond (span_Div.ok M a.p2 x2)
                (true)
                (false))
             (false))
          (false))
       (false))
    (false)
def vec_Unit.fns (c53 : LSpan → LSpan) (c53ok : LSpan → Bool) (c68 : LSpan → LSpan → LSpan) (c68ok : LSpan → LSpan → Bool) (c88 : LV3 → LSpan) (c88ok : LV3 → Bool) : FuncId → List Value → Option (Bool × Value) := ifId 53 (span_Sqrt.ph c53 c53ok) <| ifId 68 (span_Div.ph c68 c68ok) <| ifId 88 (vec_Sqr.ph c88 c88ok) <| noFns
theorem vec_Unit.fnsOK : PureFns Tryz.prog (vec_Unit.fns (span_Sqrt M0) (span_Sqrt.ok M0) (span_Div M0) (span_Div.ok M0) (vec_Sqr M0) (vec_Sqr.ok M0)) := ifIdOK span_Sqrt.phOK <| ifIdOK span_Div.phOK <| ifIdOK vec_Sqr.phOK <| noFnsOK
theorem vec_Unit.ev (M : Prims) (c53 : LSpan → LSpan) (c53ok : LSpan → Bool) (c68 : LSpan → LSpan → LSpan) (c68ok : LSpan → LSpan → Bool) (c88 : LV3 → LSpan) (c88ok : LV3 → Bool)  (a : LV3) : evP tab M (vec_Unit.fns c53 c53ok c68 c68ok c88 c88ok) noLoops 300 Tryz.f40 [a.val] = vec_Unit.k M c53 c53ok c68 c68ok c88 c88ok  a (fun r => some (.tuple ⟨[r.1.val, r.2.val]⟩, [])) := by kernel_rfl
theorem vec_Unit.k_eq (M : Prims) (a : LV3) (k : LV3 × LSpan → R) : vec_Unit.ok M a = true → vec_Unit.k M (span_Sqrt M) (span_Sqrt.ok M) (span_Div M) (span_Div.ok M) (vec_Sqr M) (vec_Sqr.ok M) a k = k (vec_Unit M a) := by
  unfold vec_Unit.ok vec_Unit.k vec_Unit
  exact kL (kL (kL (kL (kL (fun _ => rfl)))))
theorem vec_Unit.call (a : LV3) (h : vec_Unit.ok M0 a = true) : PureOK Tryz.prog 40 [a.val] (.tuple ⟨[((vec_Unit M0 a).1).val, ((vec_Unit M0 a).2).val]⟩) :=
  evP_sound (P := Tryz.prog) mixed tabOK vec_Unit.fnsOK Tryz.func40 rfl (Λ := noLoops) (c := Tryz.f40.body.getD .skip) rfl (noLoopsOK _) rfl (Nat.zero_le 1) rfl rfl ((vec_Unit.ev M0 (span_Sqrt M0) (span_Sqrt.ok M0) (span_Div M0) (span_Div.ok M0) (vec_Sqr M0) (vec_Sqr.ok M0) a).trans (vec_Unit.k_eq M0 a _ h))
def vec_Unit.ph (c40 : LV3 → LV3 × LSpan) (c40ok : LV3 → Bool) : Ph := fun args => match args with
  | [.agg ⟨[.float .f64 a0_0, .float .f64 a0_1, .float .f64 a0_2, .float .f64 a0_3, .float .f64 a0_4, .float .f64 a0_5]⟩] => some (c40ok (⟨⟨a0_0, a0_1⟩, ⟨a0_2, a0_3⟩, ⟨a0_4, a0_5⟩⟩ : LV3), .tuple ⟨[((c40 (⟨⟨a0_0, a0_1⟩, ⟨a0_2, a0_3⟩, ⟨a0_4, a0_5⟩⟩ : LV3)).1).val, ((c40 (⟨⟨a0_0, a0_1⟩, ⟨a0_2, a0_3⟩, ⟨a0_4, a0_5⟩⟩ : LV3)).2).val]⟩)
  | _ => none
theorem vec_Unit.phOK : PhOK Tryz.prog 40 (vec_Unit.ph (vec_Unit M0) (vec_Unit.ok M0)) := ⟨by
  intro args v h
  unfold vec_Unit.ph at h
  split at h
  · rename_i a0_0 a0_1 a0_2 a0_3 a0_4 a0_5
    simp only [Option.some.injEq, Prod.mk.injEq] at h
    obtain ⟨hok, rfl⟩ := h
    exact ⟨rfl, rfl, vec_Unit.call (⟨⟨a0_0, a0_1⟩, ⟨a0_2, a0_3⟩, ⟨a0_4, a0_5⟩⟩ : LV3) hok⟩
  · cases h⟩
def shape_Normal.k (_ : Prims) (c40 : LV3 → LV3 × LSpan) (c40ok : LV3 → Bool) (c41 : LV3 → LV3 → LV3) (c41ok : LV3 → LV3 → Bool) (c42 : LShape → LV3 × LV3) (c42ok : LShape → Bool) (c43 : LV3 → LV3 → LV3) (c43ok : LV3 → LV3 → Bool) (s : LShape) (p : LV3) (k : LV3 → R) : R :=
  cond ((s.kind : Int) == 2)
    (let x2 := c41 p s.p.p0
     cond (c41ok p s.p.p0)
       (cond (c40ok x2)
          (k ((c40 x2).1))
          (none))
       (none))
    (let x4 := c42 s
     cond (c42ok s)
       (let x5 := c43 x4.1 x4.2
        cond (c43ok x4.1 x4.2)
          (cond (c40ok x5)
             (k ((c40 x5).1))
             (none))
          (none))
       (none))
def shape_Normal (M : Prims) (s : LShape) (p : LV3) : LV3 :=
  cond ((s.kind : Int) == 2)
    ((vec_Unit M (vec_Sub M p s.p.p0)).1)
    (let x4 := shape_edges M s
     (vec_Unit M (vec_Cross M x4.1 x4.2)).1)
def shape_Normal.ok (M : Prims) (s : LShape) (p : LV3) : Bool :=
  cond ((s.kind : Int) == 2)
    (cond (vec_Sub.ok M p s.p.p0)
       (cond (vec_Unit.ok M (vec_Sub M p s.p.p0))
          (true)
          (false))
       (false))
    (let x4 := shape_edges M s
     cond (shape_edges.ok M s)
       (cond (vec_Cross.ok M x4.1 x4.2)
          (cond (vec_Unit.ok M (vec_Cross M x4.1 x4.2))
             (true)
             (false))
          (false))
       (false))
def shape_Normal.fns (c40 : LV3 → LV3 × LSpan) (c40ok : LV3 → Bool) (c41 : LV3 → LV3 → LV3) (c41ok : LV3 → LV3 → Bool) (c42 : LShape → LV3 × LV3) (c42ok : LShape → Bool) (c43 : LV3 → LV3 → LV3) (c43ok : LV3 → LV3 → Bool) : FuncId → List Value → Option (Bool × Value) := ifId 40 (vec_Unit.ph c40 c40ok) <| ifId 41 (vec_Sub.ph c41 c41ok) <| ifId 42 (shape_edges.ph c42 c42ok) <| ifId 43 (vec_Cross.ph c43 c43ok) <| noFns
theorem shape_Normal.fnsOK : PureFns Tryz.prog (shape_Normal.fns (vec_Unit M0) (vec_Unit.ok M0) (vec_Sub M0) (vec_Sub.ok M0) (shape_edges M0) (shape_edges.ok M0) (vec_Cross M0) (vec_Cross.ok M0)) := ifIdOK vec_Unit.phOK <| ifIdOK vec_Sub.phOK <| ifIdOK shape_edges.phOK <| ifIdOK vec_Cross.phOK <| noFnsOK
theorem shape_Normal.ev (M : Prims) (c40 : LV3 → LV3 × LSpan) (c40ok : LV3 → Bool) (c41 : LV3 → LV3 → LV3) (c41ok : LV3 → LV3 → Bool) (c42 : LShape → LV3 × LV3) (c42ok : LShape → Bool) (c43 : LV3 → LV3 → LV3) (c43ok : LV3 → LV3 → Bool)  (s : LShape) (p : LV3) : evP tab M (shape_Normal.fns c40 c40ok c41 c41ok c42 c42ok c43 c43ok) noLoops 300 Tryz.f13 [s.val, p.val] = shape_Normal.k M c40 c40ok c41 c41ok c42 c42ok c43 c43ok  s p (fun r => some (r.val, [])) := by kernel_rfl
theorem shape_Normal.k_eq (M : Prims) (s : LShape) (p : LV3) (k : LV3 → R) : shape_Normal.ok M s p = true → shape_Normal.k M (vec_Unit M) (vec_Unit.ok M) (vec_Sub M) (vec_Sub.ok M) (shape_edges M) (shape_edges.ok M) (vec_Cross M) (vec_Cross.ok M) s p k = k (shape_Normal M s p) := by
  unfold shape_Normal.ok shape_Normal.k shape_Normal
  exact kC (kL (kL (fun _ => rfl))) (kL (kL (kL (fun _ => rfl))))
theorem shape_Normal.call (s : LShape) (p : LV3) (h : shape_Normal.ok M0 s p = true) : PureOK Tryz.prog 13 [s.val, p.val] ((shape_Normal M0 s p).val) :=
  evP_sound (P := Tryz.prog) mixed tabOK shape_Normal.fnsOK Tryz.func13 rfl (Λ := noLoops) (c := Tryz.f13.body.getD .skip) rfl (noLoopsOK _) rfl (Nat.zero_le 1) rfl rfl ((shape_Normal.ev M0 (vec_Unit M0) (vec_Unit.ok M0) (vec_Sub M0) (vec_Sub.ok M0) (shape_edges M0) (shape_edges.ok M0) (vec_Cross M0) (vec_Cross.ok M0) s p).trans (shape_Normal.k_eq M0 s p _ h))
def shape_Normal.ph (c13 : LShape → LV3 → LV3) (c13ok : LShape → LV3 → Bool) : Ph := fun args => match args with
  | [.agg ⟨[.int .i64 a0_0, .float .f64 a0_1, .float .f64 a0_2, .float .f64 a0_3, .float .f64 a0_4, .float .f64 a0_5, .float .f64 a0_6, .float .f64 a0_7, .float .f64 a0_8, .float .f64 a0_9, .float .f64 a0_10, .float .f64 a0_11, .float .f64 a0_12, .float .f64 a0_13, .float .f64 a0_14, .float .f64 a0_15, .float .f64 a0_16, .float .f64 a0_17, .float .f64 a0_18, .float .f64 a0_19, .float .f64 a0_20]⟩, .agg ⟨[.float .f64 a1_0, .float .f64 a1_1, .float .f64 a1_2, .float .f64 a1_3, .float .f64 a1_4, .float .f64 a1_5]⟩] => some (c13ok (⟨a0_0, ⟨⟨⟨a0_1, a0_2⟩, ⟨a0_3, a0_4⟩, ⟨a0_5, a0_6⟩⟩, ⟨⟨a0_7, a0_8⟩, ⟨a0_9, a0_10⟩, ⟨a0_11, a0_12⟩⟩, ⟨⟨a0_13, a0_14⟩, ⟨a0_15, a0_16⟩, ⟨a0_17, a0_18⟩⟩⟩, ⟨a0_19, a0_20⟩⟩ : LShape) (⟨⟨a1_0, a1_1⟩, ⟨a1_2, a1_3⟩, ⟨a1_4, a1_5⟩⟩ : LV3), (c13 (⟨a0_0, ⟨⟨⟨a0_1, a0_2⟩, ⟨a0_3, a0_4⟩, ⟨a0_5, a0_6⟩⟩, ⟨⟨a0_7, a0_8⟩, ⟨a0_9, a0_10⟩, ⟨a0_11, a0_12⟩⟩, ⟨⟨a0_13, a0_14⟩, ⟨a0_15, a0_16⟩, ⟨a0_17, a0_18⟩⟩⟩, ⟨a0_19, a0_20⟩⟩ : LShape) (⟨⟨a1_0, a1_1⟩, ⟨a1_2, a1_3⟩, ⟨a1_4, a1_5⟩⟩ : LV3)).val)
  | _ => none
theorem shape_Normal.phOK : PhOK Tryz.prog 13 (shape_Normal.ph (shape_Normal M0) (shape_Normal.ok M0)) := ⟨by
  intro args v h
  unfold shape_Normal.ph at h
  split at h
  · rename_i a0_0 a0_1 a0_2 a0_3 a0_4 a0_5 a0_6 a0_7 a0_8 a0_9 a0_10 a0_11 a0_12 a0_13 a0_14 a0_15 a0_16 a0_17 a0_18 a0_19 a0_20 a1_0 a1_1 a1_2 a1_3 a1_4 a1_5
    simp only [Option.some.injEq, Prod.mk.injEq] at h
    obtain ⟨hok, rfl⟩ := h
    exact ⟨rfl, rfl, shape_Normal.call (⟨a0_0, ⟨⟨⟨a0_1, a0_2⟩, ⟨a0_3, a0_4⟩, ⟨a0_5, a0_6⟩⟩, ⟨⟨a0_7, a0_8⟩, ⟨a0_9, a0_10⟩, ⟨a0_11, a0_12⟩⟩, ⟨⟨a0_13, a0_14⟩, ⟨a0_15, a0_16⟩, ⟨a0_17, a0_18⟩⟩⟩, ⟨a0_19, a0_20⟩⟩ : LShape) (⟨⟨a1_0, a1_1⟩, ⟨a1_2, a1_3⟩, ⟨a1_4, a1_5⟩⟩ : LV3) hok⟩
  · cases h⟩
def lanternref02_Neg.k (M : Prims) (a : LSpan) (k : LSpan → R) : R :=
  k (⟨(M.sub 0 a.hi), (M.sub 0 a.lo)⟩ : LSpan)
def lanternref02_Neg (M : Prims) (a : LSpan) : LSpan :=
  (⟨(M.sub 0 a.hi), (M.sub 0 a.lo)⟩ : LSpan)
def lanternref02_Neg.fns : FuncId → List Value → Option (Bool × Value) := noFns
theorem lanternref02_Neg.fnsOK : PureFns Tryz.prog lanternref02_Neg.fns := noFnsOK
theorem lanternref02_Neg.ev (M : Prims)   (a : LSpan) : evP tab M lanternref02_Neg.fns noLoops 300 Tryz.f106 [a.val] = lanternref02_Neg.k M   a (fun r => some (r.val, [])) := by kernel_rfl
theorem lanternref02_Neg.k_eq (M : Prims) (a : LSpan) (k : LSpan → R) : lanternref02_Neg.k M  a k = k (lanternref02_Neg M a) := by
  unfold lanternref02_Neg.k lanternref02_Neg
  exact rfl
theorem lanternref02_Neg.call (a : LSpan) : PureOK Tryz.prog 106 [a.val] ((lanternref02_Neg M0 a).val) :=
  evP_sound (P := Tryz.prog) mixed tabOK lanternref02_Neg.fnsOK Tryz.func106 rfl (Λ := noLoops) (c := Tryz.f106.body.getD .skip) rfl (noLoopsOK _) rfl (Nat.zero_le 1) rfl rfl ((lanternref02_Neg.ev M0  a).trans (lanternref02_Neg.k_eq M0 a _))
def lanternref02_Neg.ph (c106 : LSpan → LSpan) : Ph := fun args => match args with
  | [.agg ⟨[.float .f64 a0_0, .float .f64 a0_1]⟩] => some (true, (c106 (⟨a0_0, a0_1⟩ : LSpan)).val)
  | _ => none
theorem lanternref02_Neg.phOK : PhOK Tryz.prog 106 (lanternref02_Neg.ph (lanternref02_Neg M0)) := ⟨by
  intro args v h
  unfold lanternref02_Neg.ph at h
  split at h
  · rename_i a0_0 a0_1
    simp only [Option.some.injEq, Prod.mk.injEq, true_and] at h
    subst h
    exact ⟨rfl, rfl, lanternref02_Neg.call (⟨a0_0, a0_1⟩ : LSpan)⟩
  · cases h⟩
def lanternref01_Part.k (M : Prims) (c48 : Nat → Int) (c48ok : Nat → Bool) (x : Nat) (k : LWord × Bool → R) : R :=
  let x1 := c48 x
  cond (c48ok x)
    (let x4 := IntKind.i64.wrap (M.and .u64 (shrV .u64 x1 52) 2047)
     let x5 := M.and .u64 x1 4503599627370495
     cond (decide (x4 > 0))
       (k ((⟨0, (M.or .u64 x5 4503599627370496), (IntKind.i64.wrap (x4 - 1075)), false⟩ : LWord), (((shrV .u64 x1 63) : Int) != 0)))
       (k ((⟨0, x5, (-1074), false⟩ : LWord), (((shrV .u64 x1 63) : Int) != 0))))
    (none)
def lanternref01_Part (M : Prims) (x : Nat) : LWord × Bool :=
  let x1 := f64bits x
  let x4 := IntKind.i64.wrap (M.and .u64 (shrV .u64 x1 52) 2047)
  let x5 := M.and .u64 x1 4503599627370495
  cond (decide (x4 > 0))
    (((⟨0, (M.or .u64 x5 4503599627370496), (IntKind.i64.wrap (x4 - 1075)), false⟩ : LWord), (((shrV .u64 x1 63) : Int) != 0)))
    (((⟨0, x5, (-1074), false⟩ : LWord), (((shrV .u64 x1 63) : Int) != 0)))
def lanternref01_Part.ok (_ : Prims) (x : Nat) : Bool :=
  cond (f64bits.ok x)
    (true)
    (false)
def lanternref01_Part.fns (c48 : Nat → Int) (c48ok : Nat → Bool) : FuncId → List Value → Option (Bool × Value) := ifId 48 (f64bits.ph c48 c48ok) <| noFns
theorem lanternref01_Part.fnsOK : PureFns Tryz.prog (lanternref01_Part.fns f64bits f64bits.ok) := ifIdOK f64bits.phOK <| noFnsOK
theorem lanternref01_Part.ev (M : Prims) (c48 : Nat → Int) (c48ok : Nat → Bool)  (x : Nat) : evP tab M (lanternref01_Part.fns c48 c48ok) noLoops 300 Tryz.f144 [(.float .f64 x)] = lanternref01_Part.k M c48 c48ok  x (fun r => some (.tuple ⟨[r.1.val, (.bool r.2)]⟩, [])) := by kernel_rfl
theorem lanternref01_Part.k_eq (M : Prims) (x : Nat) (k : LWord × Bool → R) : lanternref01_Part.ok M x = true → lanternref01_Part.k M f64bits f64bits.ok x k = k (lanternref01_Part M x) := by
  unfold lanternref01_Part.ok lanternref01_Part.k lanternref01_Part
  exact kL (fun _ => pC rfl rfl)
theorem lanternref01_Part.call (x : Nat) (h : lanternref01_Part.ok M0 x = true) : PureOK Tryz.prog 144 [(.float .f64 x)] (.tuple ⟨[((lanternref01_Part M0 x).1).val, (.bool ((lanternref01_Part M0 x).2))]⟩) :=
  evP_sound (P := Tryz.prog) mixed tabOK lanternref01_Part.fnsOK Tryz.func144 rfl (Λ := noLoops) (c := Tryz.f144.body.getD .skip) rfl (noLoopsOK _) rfl (Nat.zero_le 1) rfl rfl ((lanternref01_Part.ev M0 f64bits f64bits.ok x).trans (lanternref01_Part.k_eq M0 x _ h))
def lanternref01_Part.ph (c144 : Nat → LWord × Bool) (c144ok : Nat → Bool) : Ph := fun args => match args with
  | [.float .f64 a0_] => some (c144ok a0_, .tuple ⟨[((c144 a0_).1).val, (.bool ((c144 a0_).2))]⟩)
  | _ => none
theorem lanternref01_Part.phOK : PhOK Tryz.prog 144 (lanternref01_Part.ph (lanternref01_Part M0) (lanternref01_Part.ok M0)) := ⟨by
  intro args v h
  unfold lanternref01_Part.ph at h
  split at h
  · rename_i a0_
    simp only [Option.some.injEq, Prod.mk.injEq] at h
    obtain ⟨hok, rfl⟩ := h
    exact ⟨rfl, rfl, lanternref01_Part.call a0_ hok⟩
  · cases h⟩
def lanternref01_Length.k (_ : Prims) (w : LWord) (k : Int → R) : R :=
  let x1 := (w.hi : Int) != 0
  let x2 := cond x1 (64 : Int) 0
  let x3 := cond x1 (w.hi : Int) w.lo
  let x5 := ((shrV .u64 x3 32) : Int) != 0
  let x8 := cond x5 ((IntKind.i64.wrap (x2 + 32)) : Int) x2
  let x9 := cond x5 ((shrV .u64 x3 32) : Int) x3
  let x11 := ((shrV .u64 x9 16) : Int) != 0
  let x14 := cond x11 ((IntKind.i64.wrap (x8 + 16)) : Int) x8
  let x15 := cond x11 ((shrV .u64 x9 16) : Int) x9
  let x17 := ((shrV .u64 x15 8) : Int) != 0
  let x20 := cond x17 ((IntKind.i64.wrap (x14 + 8)) : Int) x14
  let x21 := cond x17 ((shrV .u64 x15 8) : Int) x15
  let x23 := ((shrV .u64 x21 4) : Int) != 0
  let x26 := cond x23 ((IntKind.i64.wrap (x20 + 4)) : Int) x20
  let x27 := cond x23 ((shrV .u64 x21 4) : Int) x21
  let x29 := ((shrV .u64 x27 2) : Int) != 0
  let x32 := cond x29 ((IntKind.i64.wrap (x26 + 2)) : Int) x26
  let x33 := cond x29 ((shrV .u64 x27 2) : Int) x27
  let x35 := ((shrV .u64 x33 1) : Int) != 0
  k (IntKind.i64.wrap ((cond x35 ((IntKind.i64.wrap (x32 + 1)) : Int) x32) + (IntKind.i64.wrap (cond x35 ((shrV .u64 x33 1) : Int) x33))))
def lanternref01_Length (_ : Prims) (w : LWord) : Int :=
  let x1 := (w.hi : Int) != 0
  let x2 := cond x1 (64 : Int) 0
  let x3 := cond x1 (w.hi : Int) w.lo
  let x5 := ((shrV .u64 x3 32) : Int) != 0
  let x8 := cond x5 ((IntKind.i64.wrap (x2 + 32)) : Int) x2
  let x9 := cond x5 ((shrV .u64 x3 32) : Int) x3
  let x11 := ((shrV .u64 x9 16) : Int) != 0
  let x14 := cond x11 ((IntKind.i64.wrap (x8 + 16)) : Int) x8
  let x15 := cond x11 ((shrV .u64 x9 16) : Int) x9
  let x17 := ((shrV .u64 x15 8) : Int) != 0
  let x20 := cond x17 ((IntKind.i64.wrap (x14 + 8)) : Int) x14
  let x21 := cond x17 ((shrV .u64 x15 8) : Int) x15
  let x23 := ((shrV .u64 x21 4) : Int) != 0
  let x26 := cond x23 ((IntKind.i64.wrap (x20 + 4)) : Int) x20
  let x27 := cond x23 ((shrV .u64 x21 4) : Int) x21
  let x29 := ((shrV .u64 x27 2) : Int) != 0
  let x32 := cond x29 ((IntKind.i64.wrap (x26 + 2)) : Int) x26
  let x33 := cond x29 ((shrV .u64 x27 2) : Int) x27
  let x35 := ((shrV .u64 x33 1) : Int) != 0
  (IntKind.i64.wrap ((cond x35 ((IntKind.i64.wrap (x32 + 1)) : Int) x32) + (IntKind.i64.wrap (cond x35 ((shrV .u64 x33 1) : Int) x33))))
def lanternref01_Length.fns : FuncId → List Value → Option (Bool × Value) := noFns
def lanternref01_Length.lps  : Loops := fun key e h => match key with
  | 1000004 => some (true, 0, e, h)
  | 1000010 => some (true, 0, e, h)
  | _ => none
theorem lanternref01_Length.fnsOK : PureFns Tryz.prog lanternref01_Length.fns := noFnsOK
noncomputable def lanternref01_Length.B7.body : Code := (nth (loopsOf (Tryz.f151.body.getD .skip)) 0).getD .skip
theorem lanternref01_Length.B7.isOK : LoopOK Tryz.prog 31 (lanternref01_Length.lps ) lanternref01_Length.B7.body := by
  intro e h x e2 h2 hL0
  rw [show keyOf lanternref01_Length.B7.body = 7 from by kernel_rfl] at hL0
  have hL : (none : Option (Bool × Nat × Env × Hp)) = some (true, x, e2, h2) := hL0
  cases hL
theorem lanternref01_Length.lpsOK : LoopsOK Tryz.prog 31 (lanternref01_Length.lps ) (loopsOf (Tryz.f151.body.getD .skip)) := by
  rw [show loopsOf (Tryz.f151.body.getD .skip) = [lanternref01_Length.B7.body] from by kernel_rfl]
  exact ⟨lanternref01_Length.B7.isOK, trivial⟩
theorem lanternref01_Length.ev (M : Prims)   (w : LWord) : evP tab M lanternref01_Length.fns (lanternref01_Length.lps ) 300 Tryz.f151 [w.val] = lanternref01_Length.k M   w (fun r => some ((.int .i64 r), [])) := by kernel_rfl
theorem lanternref01_Length.k_eq (M : Prims) (w : LWord) (k : Int → R) : lanternref01_Length.k M  w k = k (lanternref01_Length M w) := by
  unfold lanternref01_Length.k lanternref01_Length
  exact rfl
theorem lanternref01_Length.call (w : LWord) : PureOK Tryz.prog 151 [w.val] (.int .i64 (lanternref01_Length M0 w)) :=
  evP_sound (P := Tryz.prog) mixed tabOK lanternref01_Length.fnsOK Tryz.func151 rfl (Λ := (lanternref01_Length.lps )) (c := Tryz.f151.body.getD .skip) rfl lanternref01_Length.lpsOK rfl (Nat.zero_le 1) rfl rfl ((lanternref01_Length.ev M0  w).trans (lanternref01_Length.k_eq M0 w _))
def lanternref01_Length.ph (c151 : LWord → Int) : Ph := fun args => match args with
  | [.agg ⟨[.int .u64 a0_0, .int .u64 a0_1, .int .i64 a0_2, .bool a0_3]⟩] => some (true, (.int .i64 (c151 (⟨a0_0, a0_1, a0_2, a0_3⟩ : LWord))))
  | _ => none
theorem lanternref01_Length.phOK : PhOK Tryz.prog 151 (lanternref01_Length.ph (lanternref01_Length M0)) := ⟨by
  intro args v h
  unfold lanternref01_Length.ph at h
  split at h
  · rename_i a0_0 a0_1 a0_2 a0_3
    simp only [Option.some.injEq, Prod.mk.injEq, true_and] at h
    subst h
    exact ⟨rfl, rfl, lanternref01_Length.call (⟨a0_0, a0_1, a0_2, a0_3⟩ : LWord)⟩
  · cases h⟩
def lanternref01_Up.k (M : Prims) (w : LWord) (n : Int) (k : LWord → R) : R :=
  cond (decide (n ≥ 64))
    (let x2 := IntKind.i64.wrap (n - 64)
     cond (decide (0 ≤ x2))
       (k (⟨(shlV .u64 w.lo x2), 0, (IntKind.i64.wrap (w.e - n)), w.more⟩ : LWord))
       (none))
    (cond (decide (n > 0))
       (cond (decide (0 ≤ n))
          (let x7 := IntKind.i64.wrap (64 - n)
           cond (decide (0 ≤ x7))
             (cond (decide (0 ≤ n))
                (k (⟨(M.or .u64 (shlV .u64 w.hi n) (shrV .u64 w.lo x7)), (shlV .u64 w.lo n), (IntKind.i64.wrap (w.e - n)), w.more⟩ : LWord))
                (none))
             (none))
          (none))
       (k (⟨w.hi, w.lo, (IntKind.i64.wrap (w.e - n)), w.more⟩ : LWord)))
def lanternref01_Up (M : Prims) (w : LWord) (n : Int) : LWord :=
  cond (decide (n ≥ 64))
    ((⟨(shlV .u64 w.lo (IntKind.i64.wrap (n - 64))), 0, (IntKind.i64.wrap (w.e - n)), w.more⟩ : LWord))
    (cond (decide (n > 0))
       ((⟨(M.or .u64 (shlV .u64 w.hi n) (shrV .u64 w.lo (IntKind.i64.wrap (64 - n)))), (shlV .u64 w.lo n), (IntKind.i64.wrap (w.e - n)), w.more⟩ : LWord))
       ((⟨w.hi, w.lo, (IntKind.i64.wrap (w.e - n)), w.more⟩ : LWord)))
def lanternref01_Up.ok (_ : Prims) (_ : LWord) (n : Int) : Bool :=
  cond (decide (n ≥ 64))
    (cond (decide (0 ≤ (IntKind.i64.wrap (n - 64))))
       (true)
       (false))
    (cond (decide (n > 0))
       (cond (decide (0 ≤ n))
          (cond (decide (0 ≤ (IntKind.i64.wrap (64 - n))))
             (cond (decide (0 ≤ n))
                (true)
                (false))
             (false))
          (false))
       (true))
def lanternref01_Up.fns : FuncId → List Value → Option (Bool × Value) := noFns
theorem lanternref01_Up.fnsOK : PureFns Tryz.prog lanternref01_Up.fns := noFnsOK
theorem lanternref01_Up.ev (M : Prims)   (w : LWord) (n : Int) : evP tab M lanternref01_Up.fns noLoops 300 Tryz.f150 [w.val, (.int .i64 n)] = lanternref01_Up.k M   w n (fun r => some (r.val, [])) := by kernel_rfl
theorem lanternref01_Up.k_eq (M : Prims) (w : LWord) (n : Int) (k : LWord → R) : lanternref01_Up.ok M w n = true → lanternref01_Up.k M  w n k = k (lanternref01_Up M w n) := by
  unfold lanternref01_Up.ok lanternref01_Up.k lanternref01_Up
  exact kC (kL (fun _ => rfl)) (kC (kL (kL (kL (fun _ => rfl)))) (fun _ => rfl))
theorem lanternref01_Up.call (w : LWord) (n : Int) (h : lanternref01_Up.ok M0 w n = true) : PureOK Tryz.prog 150 [w.val, (.int .i64 n)] ((lanternref01_Up M0 w n).val) :=
  evP_sound (P := Tryz.prog) mixed tabOK lanternref01_Up.fnsOK Tryz.func150 rfl (Λ := noLoops) (c := Tryz.f150.body.getD .skip) rfl (noLoopsOK _) rfl (Nat.zero_le 1) rfl rfl ((lanternref01_Up.ev M0  w n).trans (lanternref01_Up.k_eq M0 w n _ h))
def lanternref01_Up.ph (c150 : LWord → Int → LWord) (c150ok : LWord → Int → Bool) : Ph := fun args => match args with
  | [.agg ⟨[.int .u64 a0_0, .int .u64 a0_1, .int .i64 a0_2, .bool a0_3]⟩, .int .i64 a1_] => some (c150ok (⟨a0_0, a0_1, a0_2, a0_3⟩ : LWord) a1_, (c150 (⟨a0_0, a0_1, a0_2, a0_3⟩ : LWord) a1_).val)
  | _ => none
theorem lanternref01_Up.phOK : PhOK Tryz.prog 150 (lanternref01_Up.ph (lanternref01_Up M0) (lanternref01_Up.ok M0)) := ⟨by
  intro args v h
  unfold lanternref01_Up.ph at h
  split at h
  · rename_i a0_0 a0_1 a0_2 a0_3 a1_
    simp only [Option.some.injEq, Prod.mk.injEq] at h
    obtain ⟨hok, rfl⟩ := h
    exact ⟨rfl, rfl, lanternref01_Up.call (⟨a0_0, a0_1, a0_2, a0_3⟩ : LWord) a1_ hok⟩
  · cases h⟩
end Go.Lan
