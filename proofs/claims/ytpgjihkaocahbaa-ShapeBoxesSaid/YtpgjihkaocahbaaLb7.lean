import Derived.Test.YtpgjihkaocahbaaLb6
namespace Go.Lan
open Go.Proofs
def shape_Leave.k (_ : Prims) (c37 : LShape → LRay → LSpan × LSpan × LSpan) (c37ok : LShape → LRay → Bool) (c38 : LSpan → Int) (c39 : LSpan → LSpan → LSpan) (c39ok : LSpan → LSpan → Bool) (c40 : LSpan → LSpan → LSpan) (c40ok : LSpan → LSpan → Bool) (c41 : Nat → LSpan) (c41ok : Nat → Bool) (c42 : Int → LSpan → LHit) (s : LShape) (r : LRay) (k : LHit → R) : R :=
  cond ((s.kind : Int) != 2)
    (k (⟨0, (⟨0, 0⟩ : LSpan), (⟨0, 0⟩ : LSpan), (⟨0, 0⟩ : LSpan)⟩ : LHit))
    (let x2 := c37 s r
     cond (c37ok s r)
       (let x3 := c38 x2.1
        cond ((x3 : Int) != 1)
          (k (⟨x3, (⟨0, 0⟩ : LSpan), (⟨0, 0⟩ : LSpan), (⟨0, 0⟩ : LSpan)⟩ : LHit))
          (let x5 := c41 13835058055282163712
           cond (c41ok 13835058055282163712)
             (let x6 := c40 x5 x2.2.1
              cond (c40ok x5 x2.2.1)
                (let x7 := c39 x6 x2.1
                 cond (c39ok x6 x2.1)
                   (k (c42 (c38 x7) x7))
                   (none))
                (none))
             (none)))
       (none))
def shape_Leave (M : Prims) (s : LShape) (r : LRay) : LHit :=
  cond ((s.kind : Int) != 2)
    ((⟨0, (⟨0, 0⟩ : LSpan), (⟨0, 0⟩ : LSpan), (⟨0, 0⟩ : LSpan)⟩ : LHit))
    (let x2 := shape_quad M s r
     let x3 := span_Positive M x2.1
     cond ((x3 : Int) != 1)
       ((⟨x3, (⟨0, 0⟩ : LSpan), (⟨0, 0⟩ : LSpan), (⟨0, 0⟩ : LSpan)⟩ : LHit))
       (let x7 := span_Div M (span_Mul M (span_Of M 13835058055282163712) x2.2.1) x2.1
        (shape_hit M (span_Positive M x7) x7)))
def shape_Leave.ok (M : Prims) (s : LShape) (r : LRay) : Bool :=
  cond ((s.kind : Int) != 2)
    (true)
    (let x2 := shape_quad M s r
     cond (shape_quad.ok M s r)
       (cond (((span_Positive M x2.1) : Int) != 1)
          (true)
          (let x5 := span_Of M 13835058055282163712
           cond (span_Of.ok M 13835058055282163712)
             (let x6 := span_Mul M x5 x2.2.1
              cond (span_Mul.ok M x5 x2.2.1)
                (cond (span_Div.ok M x6 x2.1)
                   (true)
                   (false))
                (false))
             (false)))
       (false))
def shape_Leave.fns (c37 : LShape → LRay → LSpan × LSpan × LSpan) (c37ok : LShape → LRay → Bool) (c38 : LSpan → Int) (c39 : LSpan → LSpan → LSpan) (c39ok : LSpan → LSpan → Bool) (c40 : LSpan → LSpan → LSpan) (c40ok : LSpan → LSpan → Bool) (c41 : Nat → LSpan) (c41ok : Nat → Bool) (c42 : Int → LSpan → LHit) : FuncId → List Value → Option (Bool × Value) := ifId 37 (shape_quad.ph c37 c37ok) <| ifId 38 (span_Positive.ph c38) <| ifId 39 (span_Div.ph c39 c39ok) <| ifId 40 (span_Mul.ph c40 c40ok) <| ifId 41 (span_Of.ph c41 c41ok) <| ifId 42 (shape_hit.ph c42) <| noFns
theorem shape_Leave.fnsOK : PureFns Try.prog (shape_Leave.fns (shape_quad M0) (shape_quad.ok M0) (span_Positive M0) (span_Div M0) (span_Div.ok M0) (span_Mul M0) (span_Mul.ok M0) (span_Of M0) (span_Of.ok M0) (shape_hit M0)) := ifIdOK shape_quad.phOK <| ifIdOK span_Positive.phOK <| ifIdOK span_Div.phOK <| ifIdOK span_Mul.phOK <| ifIdOK span_Of.phOK <| ifIdOK shape_hit.phOK <| noFnsOK
theorem shape_Leave.ev (M : Prims) (c37 : LShape → LRay → LSpan × LSpan × LSpan) (c37ok : LShape → LRay → Bool) (c38 : LSpan → Int) (c39 : LSpan → LSpan → LSpan) (c39ok : LSpan → LSpan → Bool) (c40 : LSpan → LSpan → LSpan) (c40ok : LSpan → LSpan → Bool) (c41 : Nat → LSpan) (c41ok : Nat → Bool) (c42 : Int → LSpan → LHit)  (s : LShape) (r : LRay) : evP tab M (shape_Leave.fns c37 c37ok c38 c39 c39ok c40 c40ok c41 c41ok c42) noLoops 300 Try.f14 [s.val, r.val] = shape_Leave.k M c37 c37ok c38 c39 c39ok c40 c40ok c41 c41ok c42  s r (fun r => some (r.val, [])) := by kernel_rfl
theorem shape_Leave.k_eq (M : Prims) (s : LShape) (r : LRay) (k : LHit → R) : shape_Leave.ok M s r = true → shape_Leave.k M (shape_quad M) (shape_quad.ok M) (span_Positive M) (span_Div M) (span_Div.ok M) (span_Mul M) (span_Mul.ok M) (span_Of M) (span_Of.ok M) (shape_hit M) s r k = k (shape_Leave M s r) := by
  unfold shape_Leave.ok shape_Leave.k shape_Leave
  exact kC (fun _ => rfl) (kL (kC (fun _ => rfl) (kL (kL (kL (fun _ => rfl))))))
theorem shape_Leave.call (s : LShape) (r : LRay) (h : shape_Leave.ok M0 s r = true) : PureOK Try.prog 14 [s.val, r.val] ((shape_Leave M0 s r).val) :=
  evP_sound (P := Try.prog) mixed tabOK shape_Leave.fnsOK Try.func14 rfl (Λ := noLoops) (c := Try.f14.body.getD .skip) rfl (noLoopsOK _) rfl (Nat.zero_le 1) rfl rfl ((shape_Leave.ev M0 (shape_quad M0) (shape_quad.ok M0) (span_Positive M0) (span_Div M0) (span_Div.ok M0) (span_Mul M0) (span_Mul.ok M0) (span_Of M0) (span_Of.ok M0) (shape_hit M0) s r).trans (shape_Leave.k_eq M0 s r _ h))
def shape_Leave.ph (c14 : LShape → LRay → LHit) (c14ok : LShape → LRay → Bool) : Ph := fun args => match args with
  | [.agg ⟨[.int .i64 a0_0, .float .f64 a0_1, .float .f64 a0_2, .float .f64 a0_3, .float .f64 a0_4, .float .f64 a0_5, .float .f64 a0_6, .float .f64 a0_7, .float .f64 a0_8, .float .f64 a0_9, .float .f64 a0_10, .float .f64 a0_11, .float .f64 a0_12, .float .f64 a0_13, .float .f64 a0_14, .float .f64 a0_15, .float .f64 a0_16, .float .f64 a0_17, .float .f64 a0_18, .float .f64 a0_19, .float .f64 a0_20]⟩, .agg ⟨[.float .f64 a1_0, .float .f64 a1_1, .float .f64 a1_2, .float .f64 a1_3, .float .f64 a1_4, .float .f64 a1_5, .float .f64 a1_6, .float .f64 a1_7, .float .f64 a1_8, .float .f64 a1_9, .float .f64 a1_10, .float .f64 a1_11]⟩] => some (c14ok (⟨a0_0, ⟨⟨⟨a0_1, a0_2⟩, ⟨a0_3, a0_4⟩, ⟨a0_5, a0_6⟩⟩, ⟨⟨a0_7, a0_8⟩, ⟨a0_9, a0_10⟩, ⟨a0_11, a0_12⟩⟩, ⟨⟨a0_13, a0_14⟩, ⟨a0_15, a0_16⟩, ⟨a0_17, a0_18⟩⟩⟩, ⟨a0_19, a0_20⟩⟩ : LShape) (⟨⟨⟨a1_0, a1_1⟩, ⟨a1_2, a1_3⟩, ⟨a1_4, a1_5⟩⟩, ⟨⟨a1_6, a1_7⟩, ⟨a1_8, a1_9⟩, ⟨a1_10, a1_11⟩⟩⟩ : LRay), (c14 (⟨a0_0, ⟨⟨⟨a0_1, a0_2⟩, ⟨a0_3, a0_4⟩, ⟨a0_5, a0_6⟩⟩, ⟨⟨a0_7, a0_8⟩, ⟨a0_9, a0_10⟩, ⟨a0_11, a0_12⟩⟩, ⟨⟨a0_13, a0_14⟩, ⟨a0_15, a0_16⟩, ⟨a0_17, a0_18⟩⟩⟩, ⟨a0_19, a0_20⟩⟩ : LShape) (⟨⟨⟨a1_0, a1_1⟩, ⟨a1_2, a1_3⟩, ⟨a1_4, a1_5⟩⟩, ⟨⟨a1_6, a1_7⟩, ⟨a1_8, a1_9⟩, ⟨a1_10, a1_11⟩⟩⟩ : LRay)).val)
  | _ => none
theorem shape_Leave.phOK : PhOK Try.prog 14 (shape_Leave.ph (shape_Leave M0) (shape_Leave.ok M0)) := ⟨by
  intro args v h
  unfold shape_Leave.ph at h
  split at h
  · rename_i a0_0 a0_1 a0_2 a0_3 a0_4 a0_5 a0_6 a0_7 a0_8 a0_9 a0_10 a0_11 a0_12 a0_13 a0_14 a0_15 a0_16 a0_17 a0_18 a0_19 a0_20 a1_0 a1_1 a1_2 a1_3 a1_4 a1_5 a1_6 a1_7 a1_8 a1_9 a1_10 a1_11
    simp only [Option.some.injEq, Prod.mk.injEq] at h
    obtain ⟨hok, rfl⟩ := h
    exact ⟨rfl, rfl, shape_Leave.call (⟨a0_0, ⟨⟨⟨a0_1, a0_2⟩, ⟨a0_3, a0_4⟩, ⟨a0_5, a0_6⟩⟩, ⟨⟨a0_7, a0_8⟩, ⟨a0_9, a0_10⟩, ⟨a0_11, a0_12⟩⟩, ⟨⟨a0_13, a0_14⟩, ⟨a0_15, a0_16⟩, ⟨a0_17, a0_18⟩⟩⟩, ⟨a0_19, a0_20⟩⟩ : LShape) (⟨⟨⟨a1_0, a1_1⟩, ⟨a1_2, a1_3⟩, ⟨a1_4, a1_5⟩⟩, ⟨⟨a1_6, a1_7⟩, ⟨a1_8, a1_9⟩, ⟨a1_10, a1_11⟩⟩⟩ : LRay) hok⟩
  · cases h⟩
def lanternref02_Within.k (M : Prims) (a : LSpan) (b : LSpan) (k : Bool → R) : R :=
  cond (M.le b.lo a.lo)
    (k (M.le a.hi b.hi))
    (k false)
def lanternref02_Within (M : Prims) (a : LSpan) (b : LSpan) : Bool :=
  cond (M.le b.lo a.lo)
    ((M.le a.hi b.hi))
    (false)
def lanternref02_Within.fns : FuncId → List Value → Option (Bool × Value) := noFns
theorem lanternref02_Within.fnsOK : PureFns Try.prog lanternref02_Within.fns := noFnsOK
theorem lanternref02_Within.ev (M : Prims)   (a : LSpan) (b : LSpan) : evP tab M lanternref02_Within.fns noLoops 300 Try.f15 [a.val, b.val] = lanternref02_Within.k M   a b (fun r => some ((.bool r), [])) := by kernel_rfl
theorem lanternref02_Within.k_eq (M : Prims) (a : LSpan) (b : LSpan) (k : Bool → R) : lanternref02_Within.k M  a b k = k (lanternref02_Within M a b) := by
  unfold lanternref02_Within.k lanternref02_Within
  exact pC rfl rfl
theorem lanternref02_Within.call (a : LSpan) (b : LSpan) : PureOK Try.prog 15 [a.val, b.val] (.bool (lanternref02_Within M0 a b)) :=
  evP_sound (P := Try.prog) mixed tabOK lanternref02_Within.fnsOK Try.func15 rfl (Λ := noLoops) (c := Try.f15.body.getD .skip) rfl (noLoopsOK _) rfl (Nat.zero_le 1) rfl rfl ((lanternref02_Within.ev M0  a b).trans (lanternref02_Within.k_eq M0 a b _))
def lanternref02_Within.ph (c15 : LSpan → LSpan → Bool) : Ph := fun args => match args with
  | [.agg ⟨[.float .f64 a0_0, .float .f64 a0_1]⟩, .agg ⟨[.float .f64 a1_0, .float .f64 a1_1]⟩] => some (true, (.bool (c15 (⟨a0_0, a0_1⟩ : LSpan) (⟨a1_0, a1_1⟩ : LSpan))))
  | _ => none
theorem lanternref02_Within.phOK : PhOK Try.prog 15 (lanternref02_Within.ph (lanternref02_Within M0)) := ⟨by
  intro args v h
  unfold lanternref02_Within.ph at h
  split at h
  · rename_i a0_0 a0_1 a1_0 a1_1
    simp only [Option.some.injEq, Prod.mk.injEq, true_and] at h
    subst h
    exact ⟨rfl, rfl, lanternref02_Within.call (⟨a0_0, a0_1⟩ : LSpan) (⟨a1_0, a1_1⟩ : LSpan)⟩
  · cases h⟩
def lanternlaw10_ShapeNests.k (_ : Prims) (c10 : LRay → Bool) (c10ok : LRay → Bool) (c11 : LV3 → LA6F → LV3) (c12 : LSpan → Nat → Nat → LSpan) (c13 : LShape → LRay → LHit) (c13ok : LShape → LRay → Bool) (c14 : LShape → LRay → LHit) (c14ok : LShape → LRay → Bool) (c15 : LSpan → LSpan → Bool) (c8 : Bool) (c8ok : Bool) (c9 : LShape → Bool) (c9ok : LShape → Bool) (s : LShape) (r : LRay) (k_2 : LA4A6F) (k : Bool → R) : R :=
  cond c8ok
    (cond (!c8)
       (k false)
       (cond (c9ok s)
          (cond (!(c9 s))
             (k true)
             (cond (c10ok r)
                (cond (!(c10 r))
                   (k true)
                   (let x6 := c11 r.o k_2.p0
                    let x7 := c11 r.d k_2.p1
                    let x8 := c11 s.p.p0 k_2.p2
                    let x9 := c11 s.p.p1 k_2.p2
                    let x10 := c11 s.p.p2 k_2.p2
                    let x11 := c12 s.r k_2.p3.p0 k_2.p3.p1
                    let x12 := c13 s r
                    cond (c13ok s r)
                      (let x13 := c13 (⟨s.kind, (⟨x8, x9, x10⟩ : LA3V3), x11⟩ : LShape) (⟨x6, x7⟩ : LRay)
                       cond (c13ok (⟨s.kind, (⟨x8, x9, x10⟩ : LA3V3), x11⟩ : LShape) (⟨x6, x7⟩ : LRay))
                         (cond ((x12.answer : Int) == 2)
                            (cond (c13ok s r)
                               (cond (c13ok (⟨s.kind, (⟨x8, x9, x10⟩ : LA3V3), x11⟩ : LShape) (⟨x6, x7⟩ : LRay))
                                  (let x17 := c14 s r
                                   cond (c14ok s r)
                                     (let x18 := c14 (⟨s.kind, (⟨x8, x9, x10⟩ : LA3V3), x11⟩ : LShape) (⟨x6, x7⟩ : LRay)
                                      cond (c14ok (⟨s.kind, (⟨x8, x9, x10⟩ : LA3V3), x11⟩ : LShape) (⟨x6, x7⟩ : LRay))
                                        (cond ((x17.answer : Int) == 2)
                                           (k true)
                                           (cond ((x18.answer : Int) != x17.answer)
                                              (k false)
                                              (cond (!(c15 x18.t x17.t))
                                                 (k false)
                                                 (cond (!(c15 x18.u x17.u))
                                                    (k false)
                                                    (cond (!(c15 x18.v x17.v))
                                                       (k false)
                                                       (k true))))))
                                        (none))
                                     (none))
                                  (none))
                               (none))
                            (cond ((x13.answer : Int) != x12.answer)
                               (k false)
                               (cond (!(c15 x13.t x12.t))
                                  (k false)
                                  (cond (!(c15 x13.u x12.u))
                                     (k false)
                                     (cond (!(c15 x13.v x12.v))
                                        (k false)
                                        (cond (c13ok s r)
                                           (cond (c13ok (⟨s.kind, (⟨x8, x9, x10⟩ : LA3V3), x11⟩ : LShape) (⟨x6, x7⟩ : LRay))
                                              (let x36 := c14 s r
                                               cond (c14ok s r)
                                                 (let x37 := c14 (⟨s.kind, (⟨x8, x9, x10⟩ : LA3V3), x11⟩ : LShape) (⟨x6, x7⟩ : LRay)
                                                  cond (c14ok (⟨s.kind, (⟨x8, x9, x10⟩ : LA3V3), x11⟩ : LShape) (⟨x6, x7⟩ : LRay))
                                                    (cond ((x36.answer : Int) == 2)
                                                       (k true)
                                                       (cond ((x37.answer : Int) != x36.answer)
                                                          (k false)
                                                          (cond (!(c15 x37.t x36.t))
                                                             (k false)
                                                             (cond (!(c15 x37.u x36.u))
                                                                (k false)
                                                                (cond (!(c15 x37.v x36.v))
                                                                   (k false)
                                                                   (k true))))))
                                                    (none))
                                                 (none))
                                              (none))
                                           (none)))))))
                         (none))
                      (none)))
                (none)))
          (none)))
    (none)
def lanternlaw10_ShapeNests (M : Prims) (s : LShape) (r : LRay) (k_2 : LA4A6F) : Bool :=
  cond (!(lanternlaw10_Awake M))
    (false)
    (cond (!(lanternref10_Valid M s))
       (true)
       (cond (!(lanternref10_ValidRay M r))
          (true)
          (let x6 := lanternlaw03_Inner3 M r.o k_2.p0
           let x7 := lanternlaw03_Inner3 M r.d k_2.p1
           let x8 := lanternlaw03_Inner3 M s.p.p0 k_2.p2
           let x9 := lanternlaw03_Inner3 M s.p.p1 k_2.p2
           let x10 := lanternlaw03_Inner3 M s.p.p2 k_2.p2
           let x11 := lanternlaw02_Inner M s.r k_2.p3.p0 k_2.p3.p1
           let x12 := shape_Meet M s r
           let x13 := shape_Meet M (⟨s.kind, (⟨x8, x9, x10⟩ : LA3V3), x11⟩ : LShape) (⟨x6, x7⟩ : LRay)
           cond ((x12.answer : Int) == 2)
             (let x17 := shape_Leave M s r
              let x18 := shape_Leave M (⟨s.kind, (⟨x8, x9, x10⟩ : LA3V3), x11⟩ : LShape) (⟨x6, x7⟩ : LRay)
              cond ((x17.answer : Int) == 2)
                (true)
                (cond ((x18.answer : Int) != x17.answer)
                   (false)
                   (cond (!(lanternref02_Within M x18.t x17.t))
                      (false)
                      (cond (!(lanternref02_Within M x18.u x17.u))
                         (false)
                         (cond (!(lanternref02_Within M x18.v x17.v))
                            (false)
                            (true))))))
             (cond ((x13.answer : Int) != x12.answer)
                (false)
                (cond (!(lanternref02_Within M x13.t x12.t))
                   (false)
                   (cond (!(lanternref02_Within M x13.u x12.u))
                      (false)
                      (cond (!(lanternref02_Within M x13.v x12.v))
                         (false)
                         (let x36 := shape_Leave M s r
                          let x37 := shape_Leave M (⟨s.kind, (⟨x8, x9, x10⟩ : LA3V3), x11⟩ : LShape) (⟨x6, x7⟩ : LRay)
                          cond ((x36.answer : Int) == 2)
                            (true)
                            (cond ((x37.answer : Int) != x36.answer)
                               (false)
                               (cond (!(lanternref02_Within M x37.t x36.t))
                                  (false)
                                  (cond (!(lanternref02_Within M x37.u x36.u))
                                     (false)
                                     (cond (!(lanternref02_Within M x37.v x36.v))
                                        (false)
                                        (true)))))))))))))
def lanternlaw10_ShapeNests.ok (M : Prims) (s : LShape) (r : LRay) (k_2 : LA4A6F) : Bool :=
  cond (lanternlaw10_Awake.ok M)
    (cond (!(lanternlaw10_Awake M))
       (true)
       (cond (lanternref10_Valid.ok M s)
          (cond (!(lanternref10_Valid M s))
             (true)
             (cond (lanternref10_ValidRay.ok M r)
                (cond (!(lanternref10_ValidRay M r))
                   (true)
                   (let x6 := lanternlaw03_Inner3 M r.o k_2.p0
                    let x7 := lanternlaw03_Inner3 M r.d k_2.p1
                    let x8 := lanternlaw03_Inner3 M s.p.p0 k_2.p2
                    let x9 := lanternlaw03_Inner3 M s.p.p1 k_2.p2
                    let x10 := lanternlaw03_Inner3 M s.p.p2 k_2.p2
                    let x11 := lanternlaw02_Inner M s.r k_2.p3.p0 k_2.p3.p1
                    let x12 := shape_Meet M s r
                    cond (shape_Meet.ok M s r)
                      (let x13 := shape_Meet M (⟨s.kind, (⟨x8, x9, x10⟩ : LA3V3), x11⟩ : LShape) (⟨x6, x7⟩ : LRay)
                       cond (shape_Meet.ok M (⟨s.kind, (⟨x8, x9, x10⟩ : LA3V3), x11⟩ : LShape) (⟨x6, x7⟩ : LRay))
                         (cond ((x12.answer : Int) == 2)
                            (cond (shape_Meet.ok M s r)
                               (cond (shape_Meet.ok M (⟨s.kind, (⟨x8, x9, x10⟩ : LA3V3), x11⟩ : LShape) (⟨x6, x7⟩ : LRay))
                                  (cond (shape_Leave.ok M s r)
                                     (cond (shape_Leave.ok M (⟨s.kind, (⟨x8, x9, x10⟩ : LA3V3), x11⟩ : LShape) (⟨x6, x7⟩ : LRay))
                                        (true)
                                        (false))
                                     (false))
                                  (false))
                               (false))
                            (cond ((x13.answer : Int) != x12.answer)
                               (true)
                               (cond (!(lanternref02_Within M x13.t x12.t))
                                  (true)
                                  (cond (!(lanternref02_Within M x13.u x12.u))
                                     (true)
                                     (cond (!(lanternref02_Within M x13.v x12.v))
                                        (true)
                                        (cond (shape_Meet.ok M s r)
                                           (cond (shape_Meet.ok M (⟨s.kind, (⟨x8, x9, x10⟩ : LA3V3), x11⟩ : LShape) (⟨x6, x7⟩ : LRay))
                                              (cond (shape_Leave.ok M s r)
                                                 (cond (shape_Leave.ok M (⟨s.kind, (⟨x8, x9, x10⟩ : LA3V3), x11⟩ : LShape) (⟨x6, x7⟩ : LRay))
                                                    (true)
                                                    (false))
                                                 (false))
                                              (false))
                                           (false)))))))
                         (false))
                      (false)))
                (false)))
          (false)))
    (false)
def lanternlaw10_ShapeNests.fns (c10 : LRay → Bool) (c10ok : LRay → Bool) (c11 : LV3 → LA6F → LV3) (c12 : LSpan → Nat → Nat → LSpan) (c13 : LShape → LRay → LHit) (c13ok : LShape → LRay → Bool) (c14 : LShape → LRay → LHit) (c14ok : LShape → LRay → Bool) (c15 : LSpan → LSpan → Bool) (c8 : Bool) (c8ok : Bool) (c9 : LShape → Bool) (c9ok : LShape → Bool) : FuncId → List Value → Option (Bool × Value) := ifId 10 (lanternref10_ValidRay.ph c10 c10ok) <| ifId 11 (lanternlaw03_Inner3.ph c11) <| ifId 12 (lanternlaw02_Inner.ph c12) <| ifId 13 (shape_Meet.ph c13 c13ok) <| ifId 14 (shape_Leave.ph c14 c14ok) <| ifId 15 (lanternref02_Within.ph c15) <| ifId 8 (lanternlaw10_Awake.ph c8 c8ok) <| ifId 9 (lanternref10_Valid.ph c9 c9ok) <| noFns
theorem lanternlaw10_ShapeNests.fnsOK : PureFns Try.prog (lanternlaw10_ShapeNests.fns (lanternref10_ValidRay M0) (lanternref10_ValidRay.ok M0) (lanternlaw03_Inner3 M0) (lanternlaw02_Inner M0) (shape_Meet M0) (shape_Meet.ok M0) (shape_Leave M0) (shape_Leave.ok M0) (lanternref02_Within M0) (lanternlaw10_Awake M0) (lanternlaw10_Awake.ok M0) (lanternref10_Valid M0) (lanternref10_Valid.ok M0)) := ifIdOK lanternref10_ValidRay.phOK <| ifIdOK lanternlaw03_Inner3.phOK <| ifIdOK lanternlaw02_Inner.phOK <| ifIdOK shape_Meet.phOK <| ifIdOK shape_Leave.phOK <| ifIdOK lanternref02_Within.phOK <| ifIdOK lanternlaw10_Awake.phOK <| ifIdOK lanternref10_Valid.phOK <| noFnsOK
theorem lanternlaw10_ShapeNests.ev (M : Prims) (c10 : LRay → Bool) (c10ok : LRay → Bool) (c11 : LV3 → LA6F → LV3) (c12 : LSpan → Nat → Nat → LSpan) (c13 : LShape → LRay → LHit) (c13ok : LShape → LRay → Bool) (c14 : LShape → LRay → LHit) (c14ok : LShape → LRay → Bool) (c15 : LSpan → LSpan → Bool) (c8 : Bool) (c8ok : Bool) (c9 : LShape → Bool) (c9ok : LShape → Bool)  (s : LShape) (r : LRay) (k_2 : LA4A6F) : evP tab M (lanternlaw10_ShapeNests.fns c10 c10ok c11 c12 c13 c13ok c14 c14ok c15 c8 c8ok c9 c9ok) noLoops 300 Try.f3 [s.val, r.val, k_2.val] = lanternlaw10_ShapeNests.k M c10 c10ok c11 c12 c13 c13ok c14 c14ok c15 c8 c8ok c9 c9ok  s r k_2 (fun r => some ((.bool r), [])) := by kernel_rfl
theorem lanternlaw10_ShapeNests.k_eq (M : Prims) (s : LShape) (r : LRay) (k_2 : LA4A6F) (k : Bool → R) : lanternlaw10_ShapeNests.ok M s r k_2 = true → lanternlaw10_ShapeNests.k M (lanternref10_ValidRay M) (lanternref10_ValidRay.ok M) (lanternlaw03_Inner3 M) (lanternlaw02_Inner M) (shape_Meet M) (shape_Meet.ok M) (shape_Leave M) (shape_Leave.ok M) (lanternref02_Within M) (lanternlaw10_Awake M) (lanternlaw10_Awake.ok M) (lanternref10_Valid M) (lanternref10_Valid.ok M) s r k_2 k = k (lanternlaw10_ShapeNests M s r k_2) := by
  unfold lanternlaw10_ShapeNests.ok lanternlaw10_ShapeNests.k lanternlaw10_ShapeNests
  exact kL (kC (fun _ => rfl) (kL (kC (fun _ => rfl) (kL (kC (fun _ => rfl) (kL (kL (kC (kL (kL (kL (kL (fun _ => pC rfl (pC rfl (pC rfl (pC rfl (pC rfl rfl))))))))) (kC (fun _ => rfl) (kC (fun _ => rfl) (kC (fun _ => rfl) (kC (fun _ => rfl) (kL (kL (kL (kL (fun _ => pC rfl (pC rfl (pC rfl (pC rfl (pC rfl rfl)))))))))))))))))))))
theorem lanternlaw10_ShapeNests.call (s : LShape) (r : LRay) (k_2 : LA4A6F) (h : lanternlaw10_ShapeNests.ok M0 s r k_2 = true) : PureOK Try.prog 3 [s.val, r.val, k_2.val] (.bool (lanternlaw10_ShapeNests M0 s r k_2)) :=
  evP_sound (P := Try.prog) mixed tabOK lanternlaw10_ShapeNests.fnsOK Try.func3 rfl (Λ := noLoops) (c := Try.f3.body.getD .skip) rfl (noLoopsOK _) rfl (Nat.zero_le 1) rfl rfl ((lanternlaw10_ShapeNests.ev M0 (lanternref10_ValidRay M0) (lanternref10_ValidRay.ok M0) (lanternlaw03_Inner3 M0) (lanternlaw02_Inner M0) (shape_Meet M0) (shape_Meet.ok M0) (shape_Leave M0) (shape_Leave.ok M0) (lanternref02_Within M0) (lanternlaw10_Awake M0) (lanternlaw10_Awake.ok M0) (lanternref10_Valid M0) (lanternref10_Valid.ok M0) s r k_2).trans (lanternlaw10_ShapeNests.k_eq M0 s r k_2 _ h))
theorem lanternlaw10_ShapeNests.calls (s : LShape) (r : LRay) (k_2 : LA4A6F) (h : lanternlaw10_ShapeNests.ok M0 s r k_2 = true) : ∀ w args', DRL w [s.val, r.val, k_2.val] args' → Calls Try.prog 3 ⟨args'⟩ w fun e w' => ∃ v', e = .returned v' ∧ VR [] (.bool (lanternlaw10_ShapeNests M0 s r k_2)) v' ∧ Go.RowKit.Below w.heap.size w w' :=
  evP_calls (P := Try.prog) mixed tabOK lanternlaw10_ShapeNests.fnsOK Try.func3 (Λ := noLoops) (c := Try.f3.body.getD .skip) rfl (noLoopsOK _) rfl (Nat.zero_le 1) rfl rfl ((lanternlaw10_ShapeNests.ev M0 (lanternref10_ValidRay M0) (lanternref10_ValidRay.ok M0) (lanternlaw03_Inner3 M0) (lanternlaw02_Inner M0) (shape_Meet M0) (shape_Meet.ok M0) (shape_Leave M0) (shape_Leave.ok M0) (lanternref02_Within M0) (lanternlaw10_Awake M0) (lanternlaw10_Awake.ok M0) (lanternref10_Valid M0) (lanternref10_Valid.ok M0) s r k_2).trans (lanternlaw10_ShapeNests.k_eq M0 s r k_2 _ h))
def lanternhand_Fits.k (M : Prims) (x : Nat) (k : Bool → R) : R :=
  cond (M.lt x 0)
    (let x2 := M.neg x
     cond (M.eq x2 0)
       (k true)
       (cond (M.ge x2 4156822456062967808)
          (k (M.le x2 5057542381537067008))
          (k false)))
    (cond (M.eq x 0)
       (k true)
       (cond (M.ge x 4156822456062967808)
          (k (M.le x 5057542381537067008))
          (k false)))
def lanternhand_Fits (M : Prims) (x : Nat) : Bool :=
  cond (M.lt x 0)
    (let x2 := M.neg x
     cond (M.eq x2 0)
       (true)
       (cond (M.ge x2 4156822456062967808)
          ((M.le x2 5057542381537067008))
          (false)))
    (cond (M.eq x 0)
       (true)
       (cond (M.ge x 4156822456062967808)
          ((M.le x 5057542381537067008))
          (false)))
def lanternhand_Fits.fns : FuncId → List Value → Option (Bool × Value) := noFns
theorem lanternhand_Fits.fnsOK : PureFns Try.prog lanternhand_Fits.fns := noFnsOK
theorem lanternhand_Fits.ev (M : Prims)   (x : Nat) : evP tab M lanternhand_Fits.fns noLoops 300 Try.f81 [(.float .f64 x)] = lanternhand_Fits.k M   x (fun r => some ((.bool r), [])) := by kernel_rfl
theorem lanternhand_Fits.k_eq (M : Prims) (x : Nat) (k : Bool → R) : lanternhand_Fits.k M  x k = k (lanternhand_Fits M x) := by
  unfold lanternhand_Fits.k lanternhand_Fits
  exact pC (pC rfl (pC rfl rfl)) (pC rfl (pC rfl rfl))
theorem lanternhand_Fits.call (x : Nat) : PureOK Try.prog 81 [(.float .f64 x)] (.bool (lanternhand_Fits M0 x)) :=
  evP_sound (P := Try.prog) mixed tabOK lanternhand_Fits.fnsOK Try.func81 rfl (Λ := noLoops) (c := Try.f81.body.getD .skip) rfl (noLoopsOK _) rfl (Nat.zero_le 1) rfl rfl ((lanternhand_Fits.ev M0  x).trans (lanternhand_Fits.k_eq M0 x _))
def lanternhand_Fits.ph (c81 : Nat → Bool) : Ph := fun args => match args with
  | [.float .f64 a0_] => some (true, (.bool (c81 a0_)))
  | _ => none
theorem lanternhand_Fits.phOK : PhOK Try.prog 81 (lanternhand_Fits.ph (lanternhand_Fits M0)) := ⟨by
  intro args v h
  unfold lanternhand_Fits.ph at h
  split at h
  · rename_i a0_
    simp only [Option.some.injEq, Prod.mk.injEq, true_and] at h
    subst h
    exact ⟨rfl, rfl, lanternhand_Fits.call a0_⟩
  · cases h⟩
def lanternhand_Fit.k (M : Prims) (c81 : Nat → Bool) (x : Nat) (k : Nat → R) : R :=
  cond (c81 x)
    (k (M.add x 0))
    (k 4607182418800017408)
def lanternhand_Fit (M : Prims) (x : Nat) : Nat :=
  cond (lanternhand_Fits M x)
    ((M.add x 0))
    (4607182418800017408)
def lanternhand_Fit.fns (c81 : Nat → Bool) : FuncId → List Value → Option (Bool × Value) := ifId 81 (lanternhand_Fits.ph c81) <| noFns
theorem lanternhand_Fit.fnsOK : PureFns Try.prog (lanternhand_Fit.fns (lanternhand_Fits M0)) := ifIdOK lanternhand_Fits.phOK <| noFnsOK
theorem lanternhand_Fit.ev (M : Prims) (c81 : Nat → Bool)  (x : Nat) : evP tab M (lanternhand_Fit.fns c81) noLoops 300 Try.f43 [(.float .f64 x)] = lanternhand_Fit.k M c81  x (fun r => some ((.float .f64 r), [])) := by kernel_rfl
theorem lanternhand_Fit.k_eq (M : Prims) (x : Nat) (k : Nat → R) : lanternhand_Fit.k M (lanternhand_Fits M) x k = k (lanternhand_Fit M x) := by
  unfold lanternhand_Fit.k lanternhand_Fit
  exact pC rfl rfl
theorem lanternhand_Fit.call (x : Nat) : PureOK Try.prog 43 [(.float .f64 x)] (.float .f64 (lanternhand_Fit M0 x)) :=
  evP_sound (P := Try.prog) mixed tabOK lanternhand_Fit.fnsOK Try.func43 rfl (Λ := noLoops) (c := Try.f43.body.getD .skip) rfl (noLoopsOK _) rfl (Nat.zero_le 1) rfl rfl ((lanternhand_Fit.ev M0 (lanternhand_Fits M0) x).trans (lanternhand_Fit.k_eq M0 x _))
def lanternhand_Fit.ph (c43 : Nat → Nat) : Ph := fun args => match args with
  | [.float .f64 a0_] => some (true, (.float .f64 (c43 a0_)))
  | _ => none
theorem lanternhand_Fit.phOK : PhOK Try.prog 43 (lanternhand_Fit.ph (lanternhand_Fit M0)) := ⟨by
  intro args v h
  unfold lanternhand_Fit.ph at h
  split at h
  · rename_i a0_
    simp only [Option.some.injEq, Prod.mk.injEq, true_and] at h
    subst h
    exact ⟨rfl, rfl, lanternhand_Fit.call a0_⟩
  · cases h⟩
def lanternlaw10_fit.k (_ : Prims) (c43 : Nat → Nat) (t : LTriple) (k : LTriple → R) : R :=
  k (⟨(c43 t.p0), (c43 t.p1), (c43 t.p2)⟩ : LTriple)
def lanternlaw10_fit (M : Prims) (t : LTriple) : LTriple :=
  (⟨(lanternhand_Fit M t.p0), (lanternhand_Fit M t.p1), (lanternhand_Fit M t.p2)⟩ : LTriple)
def lanternlaw10_fit.fns (c43 : Nat → Nat) : FuncId → List Value → Option (Bool × Value) := ifId 43 (lanternhand_Fit.ph c43) <| noFns
theorem lanternlaw10_fit.fnsOK : PureFns Try.prog (lanternlaw10_fit.fns (lanternhand_Fit M0)) := ifIdOK lanternhand_Fit.phOK <| noFnsOK
theorem lanternlaw10_fit.ev (M : Prims) (c43 : Nat → Nat)  (t : LTriple) : evP tab M (lanternlaw10_fit.fns c43) noLoops 300 Try.f16 [t.val] = lanternlaw10_fit.k M c43  t (fun r => some (r.val, [])) := by kernel_rfl
theorem lanternlaw10_fit.k_eq (M : Prims) (t : LTriple) (k : LTriple → R) : lanternlaw10_fit.k M (lanternhand_Fit M) t k = k (lanternlaw10_fit M t) := by
  unfold lanternlaw10_fit.k lanternlaw10_fit
  exact rfl
theorem lanternlaw10_fit.call (t : LTriple) : PureOK Try.prog 16 [t.val] ((lanternlaw10_fit M0 t).val) :=
  evP_sound (P := Try.prog) mixed tabOK lanternlaw10_fit.fnsOK Try.func16 rfl (Λ := noLoops) (c := Try.f16.body.getD .skip) rfl (noLoopsOK _) rfl (Nat.zero_le 1) rfl rfl ((lanternlaw10_fit.ev M0 (lanternhand_Fit M0) t).trans (lanternlaw10_fit.k_eq M0 t _))
def lanternlaw10_fit.ph (c16 : LTriple → LTriple) : Ph := fun args => match args with
  | [.agg ⟨[.float .f64 a0_0, .float .f64 a0_1, .float .f64 a0_2]⟩] => some (true, (c16 (⟨a0_0, a0_1, a0_2⟩ : LTriple)).val)
  | _ => none
theorem lanternlaw10_fit.phOK : PhOK Try.prog 16 (lanternlaw10_fit.ph (lanternlaw10_fit M0)) := ⟨by
  intro args v h
  unfold lanternlaw10_fit.ph at h
  split at h
  · rename_i a0_0 a0_1 a0_2
    simp only [Option.some.injEq, Prod.mk.injEq, true_and] at h
    subst h
    exact ⟨rfl, rfl, lanternlaw10_fit.call (⟨a0_0, a0_1, a0_2⟩ : LTriple)⟩
  · cases h⟩
def span_Hull.k (M : Prims) (a : LSpan) (b : LSpan) (k : LSpan → R) : R :=
  k (⟨(M.min a.lo b.lo), (M.max a.hi b.hi)⟩ : LSpan)
def span_Hull (M : Prims) (a : LSpan) (b : LSpan) : LSpan :=
  (⟨(M.min a.lo b.lo), (M.max a.hi b.hi)⟩ : LSpan)
def span_Hull.fns : FuncId → List Value → Option (Bool × Value) := noFns
theorem span_Hull.fnsOK : PureFns Try.prog span_Hull.fns := noFnsOK
theorem span_Hull.ev (M : Prims)   (a : LSpan) (b : LSpan) : evP tab M span_Hull.fns noLoops 300 Try.f44 [a.val, b.val] = span_Hull.k M   a b (fun r => some (r.val, [])) := by kernel_rfl
theorem span_Hull.k_eq (M : Prims) (a : LSpan) (b : LSpan) (k : LSpan → R) : span_Hull.k M  a b k = k (span_Hull M a b) := by
  unfold span_Hull.k span_Hull
  exact rfl
theorem span_Hull.call (a : LSpan) (b : LSpan) : PureOK Try.prog 44 [a.val, b.val] ((span_Hull M0 a b).val) :=
  evP_sound (P := Try.prog) mixed tabOK span_Hull.fnsOK Try.func44 rfl (Λ := noLoops) (c := Try.f44.body.getD .skip) rfl (noLoopsOK _) rfl (Nat.zero_le 1) rfl rfl ((span_Hull.ev M0  a b).trans (span_Hull.k_eq M0 a b _))
def span_Hull.ph (c44 : LSpan → LSpan → LSpan) : Ph := fun args => match args with
  | [.agg ⟨[.float .f64 a0_0, .float .f64 a0_1]⟩, .agg ⟨[.float .f64 a1_0, .float .f64 a1_1]⟩] => some (true, (c44 (⟨a0_0, a0_1⟩ : LSpan) (⟨a1_0, a1_1⟩ : LSpan)).val)
  | _ => none
theorem span_Hull.phOK : PhOK Try.prog 44 (span_Hull.ph (span_Hull M0)) := ⟨by
  intro args v h
  unfold span_Hull.ph at h
  split at h
  · rename_i a0_0 a0_1 a1_0 a1_1
    simp only [Option.some.injEq, Prod.mk.injEq, true_and] at h
    subst h
    exact ⟨rfl, rfl, span_Hull.call (⟨a0_0, a0_1⟩ : LSpan) (⟨a1_0, a1_1⟩ : LSpan)⟩
  · cases h⟩
def shape_Bounds.k (_ : Prims) (c44 : LSpan → LSpan → LSpan) (c45 : LSpan → LSpan → LSpan) (c45ok : LSpan → LSpan → Bool) (c46 : LSpan → LSpan → LSpan) (c46ok : LSpan → LSpan → Bool) (s : LShape) (k : LBox → R) : R :=
  cond ((s.kind : Int) == 1)
    (let x3 := c44 (c44 s.p.p0.p0 s.p.p1.p0) s.p.p2.p0
     cond ((s.kind : Int) == 1)
       (let x6 := c44 (c44 s.p.p0.p1 s.p.p1.p1) s.p.p2.p1
        cond ((s.kind : Int) == 1)
          (let x9 := c44 (c44 s.p.p0.p2 s.p.p1.p2) s.p.p2.p2
           k (⟨(⟨x3.lo, x6.lo, x9.lo⟩ : LTriple), (⟨x3.hi, x6.hi, x9.hi⟩ : LTriple)⟩ : LBox))
          (cond (c45ok s.p.p0.p2 s.r)
             (cond (c46ok s.p.p0.p2 s.r)
                (let x12 := c44 (c45 s.p.p0.p2 s.r) (c46 s.p.p0.p2 s.r)
                 k (⟨(⟨x3.lo, x6.lo, x12.lo⟩ : LTriple), (⟨x3.hi, x6.hi, x12.hi⟩ : LTriple)⟩ : LBox))
                (none))
             (none)))
       (cond (c45ok s.p.p0.p1 s.r)
          (cond (c46ok s.p.p0.p1 s.r)
             (let x15 := c44 (c45 s.p.p0.p1 s.r) (c46 s.p.p0.p1 s.r)
              cond ((s.kind : Int) == 1)
                (let x18 := c44 (c44 s.p.p0.p2 s.p.p1.p2) s.p.p2.p2
                 k (⟨(⟨x3.lo, x15.lo, x18.lo⟩ : LTriple), (⟨x3.hi, x15.hi, x18.hi⟩ : LTriple)⟩ : LBox))
                (cond (c45ok s.p.p0.p2 s.r)
                   (cond (c46ok s.p.p0.p2 s.r)
                      (let x21 := c44 (c45 s.p.p0.p2 s.r) (c46 s.p.p0.p2 s.r)
                       k (⟨(⟨x3.lo, x15.lo, x21.lo⟩ : LTriple), (⟨x3.hi, x15.hi, x21.hi⟩ : LTriple)⟩ : LBox))
                      (none))
                   (none)))
             (none))
          (none)))
    (cond (c45ok s.p.p0.p0 s.r)
       (cond (c46ok s.p.p0.p0 s.r)
          (let x24 := c44 (c45 s.p.p0.p0 s.r) (c46 s.p.p0.p0 s.r)
           cond ((s.kind : Int) == 1)
             (let x27 := c44 (c44 s.p.p0.p1 s.p.p1.p1) s.p.p2.p1
              cond ((s.kind : Int) == 1)
                (let x30 := c44 (c44 s.p.p0.p2 s.p.p1.p2) s.p.p2.p2
                 k (⟨(⟨x24.lo, x27.lo, x30.lo⟩ : LTriple), (⟨x24.hi, x27.hi, x30.hi⟩ : LTriple)⟩ : LBox))
                (cond (c45ok s.p.p0.p2 s.r)
                   (cond (c46ok s.p.p0.p2 s.r)
                      (let x33 := c44 (c45 s.p.p0.p2 s.r) (c46 s.p.p0.p2 s.r)
                       k (⟨(⟨x24.lo, x27.lo, x33.lo⟩ : LTriple), (⟨x24.hi, x27.hi, x33.hi⟩ : LTriple)⟩ : LBox))
                      (none))
                   (none)))
             (cond (c45ok s.p.p0.p1 s.r)
                (cond (c46ok s.p.p0.p1 s.r)
                   (let x36 := c44 (c45 s.p.p0.p1 s.r) (c46 s.p.p0.p1 s.r)
                    cond ((s.kind : Int) == 1)
                      (let x39 := c44 (c44 s.p.p0.p2 s.p.p1.p2) s.p.p2.p2
                       k (⟨(⟨x24.lo, x36.lo, x39.lo⟩ : LTriple), (⟨x24.hi, x36.hi, x39.hi⟩ : LTriple)⟩ : LBox))
                      (cond (c45ok s.p.p0.p2 s.r)
                         (cond (c46ok s.p.p0.p2 s.r)
                            (let x42 := c44 (c45 s.p.p0.p2 s.r) (c46 s.p.p0.p2 s.r)
                             k (⟨(⟨x24.lo, x36.lo, x42.lo⟩ : LTriple), (⟨x24.hi, x36.hi, x42.hi⟩ : LTriple)⟩ : LBox))
                            (none))
                         (none)))
                   (none))
                (none)))
          (none))
       (none))
def shape_Bounds (M : Prims) (s : LShape) : LBox :=
  cond ((s.kind : Int) == 1)
    (let x3 := span_Hull M (span_Hull M s.p.p0.p0 s.p.p1.p0) s.p.p2.p0
     cond ((s.kind : Int) == 1)
       (let x6 := span_Hull M (span_Hull M s.p.p0.p1 s.p.p1.p1) s.p.p2.p1
        cond ((s.kind : Int) == 1)
          (let x9 := span_Hull M (span_Hull M s.p.p0.p2 s.p.p1.p2) s.p.p2.p2
           (⟨(⟨x3.lo, x6.lo, x9.lo⟩ : LTriple), (⟨x3.hi, x6.hi, x9.hi⟩ : LTriple)⟩ : LBox))
          (let x12 := span_Hull M (span_Sub M s.p.p0.p2 s.r) (span_Add M s.p.p0.p2 s.r)
           (⟨(⟨x3.lo, x6.lo, x12.lo⟩ : LTriple), (⟨x3.hi, x6.hi, x12.hi⟩ : LTriple)⟩ : LBox)))
       (let x15 := span_Hull M (span_Sub M s.p.p0.p1 s.r) (span_Add M s.p.p0.p1 s.r)
        cond ((s.kind : Int) == 1)
          (let x18 := span_Hull M (span_Hull M s.p.p0.p2 s.p.p1.p2) s.p.p2.p2
           (⟨(⟨x3.lo, x15.lo, x18.lo⟩ : LTriple), (⟨x3.hi, x15.hi, x18.hi⟩ : LTriple)⟩ : LBox))
          (let x21 := span_Hull M (span_Sub M s.p.p0.p2 s.r) (span_Add M s.p.p0.p2 s.r)
           (⟨(⟨x3.lo, x15.lo, x21.lo⟩ : LTriple), (⟨x3.hi, x15.hi, x21.hi⟩ : LTriple)⟩ : LBox))))
    (let x24 := span_Hull M (span_Sub M s.p.p0.p0 s.r) (span_Add M s.p.p0.p0 s.r)
     cond ((s.kind : Int) == 1)
       (let x27 := span_Hull M (span_Hull M s.p.p0.p1 s.p.p1.p1) s.p.p2.p1
        cond ((s.kind : Int) == 1)
          (let x30 := span_Hull M (span_Hull M s.p.p0.p2 s.p.p1.p2) s.p.p2.p2
           (⟨(⟨x24.lo, x27.lo, x30.lo⟩ : LTriple), (⟨x24.hi, x27.hi, x30.hi⟩ : LTriple)⟩ : LBox))
          (let x33 := span_Hull M (span_Sub M s.p.p0.p2 s.r) (span_Add M s.p.p0.p2 s.r)
           (⟨(⟨x24.lo, x27.lo, x33.lo⟩ : LTriple), (⟨x24.hi, x27.hi, x33.hi⟩ : LTriple)⟩ : LBox)))
       (let x36 := span_Hull M (span_Sub M s.p.p0.p1 s.r) (span_Add M s.p.p0.p1 s.r)
        cond ((s.kind : Int) == 1)
          (let x39 := span_Hull M (span_Hull M s.p.p0.p2 s.p.p1.p2) s.p.p2.p2
           (⟨(⟨x24.lo, x36.lo, x39.lo⟩ : LTriple), (⟨x24.hi, x36.hi, x39.hi⟩ : LTriple)⟩ : LBox))
          (let x42 := span_Hull M (span_Sub M s.p.p0.p2 s.r) (span_Add M s.p.p0.p2 s.r)
           (⟨(⟨x24.lo, x36.lo, x42.lo⟩ : LTriple), (⟨x24.hi, x36.hi, x42.hi⟩ : LTriple)⟩ : LBox))))
def shape_Bounds.ok (M : Prims) (s : LShape) : Bool :=
  cond ((s.kind : Int) == 1)
    (cond ((s.kind : Int) == 1)
       (cond ((s.kind : Int) == 1)
          (true)
          (cond (span_Sub.ok M s.p.p0.p2 s.r)
             (cond (span_Add.ok M s.p.p0.p2 s.r)
                (true)
                (false))
             (false)))
       (cond (span_Sub.ok M s.p.p0.p1 s.r)
          (cond (span_Add.ok M s.p.p0.p1 s.r)
             (cond ((s.kind : Int) == 1)
                (true)
                (cond (span_Sub.ok M s.p.p0.p2 s.r)
                   (cond (span_Add.ok M s.p.p0.p2 s.r)
                      (true)
                      (false))
                   (false)))
             (false))
          (false)))
    (cond (span_Sub.ok M s.p.p0.p0 s.r)
       (cond (span_Add.ok M s.p.p0.p0 s.r)
          (cond ((s.kind : Int) == 1)
             (cond ((s.kind : Int) == 1)
                (true)
                (cond (span_Sub.ok M s.p.p0.p2 s.r)
                   (cond (span_Add.ok M s.p.p0.p2 s.r)
                      (true)
                      (false))
                   (false)))
             (cond (span_Sub.ok M s.p.p0.p1 s.r)
                (cond (span_Add.ok M s.p.p0.p1 s.r)
                   (cond ((s.kind : Int) == 1)
                      (true)
                      (cond (span_Sub.ok M s.p.p0.p2 s.r)
                         (cond (span_Add.ok M s.p.p0.p2 s.r)
                            (true)
                            (false))
                         (false)))
                   (false))
                (false)))
          (false))
       (false))
def shape_Bounds.fns (c44 : LSpan → LSpan → LSpan) (c45 : LSpan → LSpan → LSpan) (c45ok : LSpan → LSpan → Bool) (c46 : LSpan → LSpan → LSpan) (c46ok : LSpan → LSpan → Bool) : FuncId → List Value → Option (Bool × Value) := ifId 44 (span_Hull.ph c44) <| ifId 45 (span_Sub.ph c45 c45ok) <| ifId 46 (span_Add.ph c46 c46ok) <| noFns
theorem shape_Bounds.fnsOK : PureFns Try.prog (shape_Bounds.fns (span_Hull M0) (span_Sub M0) (span_Sub.ok M0) (span_Add M0) (span_Add.ok M0)) := ifIdOK span_Hull.phOK <| ifIdOK span_Sub.phOK <| ifIdOK span_Add.phOK <| noFnsOK
theorem shape_Bounds.ev (M : Prims) (c44 : LSpan → LSpan → LSpan) (c45 : LSpan → LSpan → LSpan) (c45ok : LSpan → LSpan → Bool) (c46 : LSpan → LSpan → LSpan) (c46ok : LSpan → LSpan → Bool)  (s : LShape) : evP tab M (shape_Bounds.fns c44 c45 c45ok c46 c46ok) noLoops 300 Try.f18 [s.val] = shape_Bounds.k M c44 c45 c45ok c46 c46ok  s (fun r => some (r.val, [])) := by kernel_rfl
theorem shape_Bounds.k_eq (M : Prims) (s : LShape) (k : LBox → R) : shape_Bounds.ok M s = true → shape_Bounds.k M (span_Hull M) (span_Sub M) (span_Sub.ok M) (span_Add M) (span_Add.ok M) s k = k (shape_Bounds M s) := by
  unfold shape_Bounds.ok shape_Bounds.k shape_Bounds
  exact kC (kC (kC (fun _ => rfl) (kL (kL (fun _ => rfl)))) (kL (kL (kC (fun _ => rfl) (kL (kL (fun _ => rfl))))))) (kL (kL (kC (kC (fun _ => rfl) (kL (kL (fun _ => rfl)))) (kL (kL (kC (fun _ => rfl) (kL (kL (fun _ => rfl)))))))))
theorem shape_Bounds.call (s : LShape) (h : shape_Bounds.ok M0 s = true) : PureOK Try.prog 18 [s.val] ((shape_Bounds M0 s).val) :=
  evP_sound (P := Try.prog) mixed tabOK shape_Bounds.fnsOK Try.func18 rfl (Λ := noLoops) (c := Try.f18.body.getD .skip) rfl (noLoopsOK _) rfl (Nat.zero_le 1) rfl rfl ((shape_Bounds.ev M0 (span_Hull M0) (span_Sub M0) (span_Sub.ok M0) (span_Add M0) (span_Add.ok M0) s).trans (shape_Bounds.k_eq M0 s _ h))
def shape_Bounds.ph (c18 : LShape → LBox) (c18ok : LShape → Bool) : Ph := fun args => match args with
  | [.agg ⟨[.int .i64 a0_0, .float .f64 a0_1, .float .f64 a0_2, .float .f64 a0_3, .float .f64 a0_4, .float .f64 a0_5, .float .f64 a0_6, .float .f64 a0_7, .float .f64 a0_8, .float .f64 a0_9, .float .f64 a0_10, .float .f64 a0_11, .float .f64 a0_12, .float .f64 a0_13, .float .f64 a0_14, .float .f64 a0_15, .float .f64 a0_16, .float .f64 a0_17, .float .f64 a0_18, .float .f64 a0_19, .float .f64 a0_20]⟩] => some (c18ok (⟨a0_0, ⟨⟨⟨a0_1, a0_2⟩, ⟨a0_3, a0_4⟩, ⟨a0_5, a0_6⟩⟩, ⟨⟨a0_7, a0_8⟩, ⟨a0_9, a0_10⟩, ⟨a0_11, a0_12⟩⟩, ⟨⟨a0_13, a0_14⟩, ⟨a0_15, a0_16⟩, ⟨a0_17, a0_18⟩⟩⟩, ⟨a0_19, a0_20⟩⟩ : LShape), (c18 (⟨a0_0, ⟨⟨⟨a0_1, a0_2⟩, ⟨a0_3, a0_4⟩, ⟨a0_5, a0_6⟩⟩, ⟨⟨a0_7, a0_8⟩, ⟨a0_9, a0_10⟩, ⟨a0_11, a0_12⟩⟩, ⟨⟨a0_13, a0_14⟩, ⟨a0_15, a0_16⟩, ⟨a0_17, a0_18⟩⟩⟩, ⟨a0_19, a0_20⟩⟩ : LShape)).val)
  | _ => none
theorem shape_Bounds.phOK : PhOK Try.prog 18 (shape_Bounds.ph (shape_Bounds M0) (shape_Bounds.ok M0)) := ⟨by
  intro args v h
  unfold shape_Bounds.ph at h
  split at h
  · rename_i a0_0 a0_1 a0_2 a0_3 a0_4 a0_5 a0_6 a0_7 a0_8 a0_9 a0_10 a0_11 a0_12 a0_13 a0_14 a0_15 a0_16 a0_17 a0_18 a0_19 a0_20
    simp only [Option.some.injEq, Prod.mk.injEq] at h
    obtain ⟨hok, rfl⟩ := h
    exact ⟨rfl, rfl, shape_Bounds.call (⟨a0_0, ⟨⟨⟨a0_1, a0_2⟩, ⟨a0_3, a0_4⟩, ⟨a0_5, a0_6⟩⟩, ⟨⟨a0_7, a0_8⟩, ⟨a0_9, a0_10⟩, ⟨a0_11, a0_12⟩⟩, ⟨⟨a0_13, a0_14⟩, ⟨a0_15, a0_16⟩, ⟨a0_17, a0_18⟩⟩⟩, ⟨a0_19, a0_20⟩⟩ : LShape) hok⟩
  · cases h⟩
def vec_Scale.k (_ : Prims) (c87 : LV3 → LV3 → LV3) (c87ok : LV3 → LV3 → Bool) (a : LV3) (s : LSpan) (k : LV3 → R) : R :=
  cond (c87ok a (⟨s, s, s⟩ : LV3))
    (k (c87 a (⟨s, s, s⟩ : LV3)))
    (none)
def vec_Scale (M : Prims) (a : LV3) (s : LSpan) : LV3 :=
  (vec_Times M a (⟨s, s, s⟩ : LV3))
def vec_Scale.ok (M : Prims) (a : LV3) (s : LSpan) : Bool :=
  cond (vec_Times.ok M a (⟨s, s, s⟩ : LV3))
    (true)
    (false)
def vec_Scale.fns (c87 : LV3 → LV3 → LV3) (c87ok : LV3 → LV3 → Bool) : FuncId → List Value → Option (Bool × Value) := ifId 87 (vec_Times.ph c87 c87ok) <| noFns
theorem vec_Scale.fnsOK : PureFns Try.prog (vec_Scale.fns (vec_Times M0) (vec_Times.ok M0)) := ifIdOK vec_Times.phOK <| noFnsOK
theorem vec_Scale.ev (M : Prims) (c87 : LV3 → LV3 → LV3) (c87ok : LV3 → LV3 → Bool)  (a : LV3) (s : LSpan) : evP tab M (vec_Scale.fns c87 c87ok) noLoops 300 Try.f50 [a.val, s.val] = vec_Scale.k M c87 c87ok  a s (fun r => some (r.val, [])) := by kernel_rfl
theorem vec_Scale.k_eq (M : Prims) (a : LV3) (s : LSpan) (k : LV3 → R) : vec_Scale.ok M a s = true → vec_Scale.k M (vec_Times M) (vec_Times.ok M) a s k = k (vec_Scale M a s) := by
  unfold vec_Scale.ok vec_Scale.k vec_Scale
  exact kL (fun _ => rfl)
theorem vec_Scale.call (a : LV3) (s : LSpan) (h : vec_Scale.ok M0 a s = true) : PureOK Try.prog 50 [a.val, s.val] ((vec_Scale M0 a s).val) :=
  evP_sound (P := Try.prog) mixed tabOK vec_Scale.fnsOK Try.func50 rfl (Λ := noLoops) (c := Try.f50.body.getD .skip) rfl (noLoopsOK _) rfl (Nat.zero_le 1) rfl rfl ((vec_Scale.ev M0 (vec_Times M0) (vec_Times.ok M0) a s).trans (vec_Scale.k_eq M0 a s _ h))
def vec_Scale.ph (c50 : LV3 → LSpan → LV3) (c50ok : LV3 → LSpan → Bool) : Ph := fun args => match args with
  | [.agg ⟨[.float .f64 a0_0, .float .f64 a0_1, .float .f64 a0_2, .float .f64 a0_3, .float .f64 a0_4, .float .f64 a0_5]⟩, .agg ⟨[.float .f64 a1_0, .float .f64 a1_1]⟩] => some (c50ok (⟨⟨a0_0, a0_1⟩, ⟨a0_2, a0_3⟩, ⟨a0_4, a0_5⟩⟩ : LV3) (⟨a1_0, a1_1⟩ : LSpan), (c50 (⟨⟨a0_0, a0_1⟩, ⟨a0_2, a0_3⟩, ⟨a0_4, a0_5⟩⟩ : LV3) (⟨a1_0, a1_1⟩ : LSpan)).val)
  | _ => none
theorem vec_Scale.phOK : PhOK Try.prog 50 (vec_Scale.ph (vec_Scale M0) (vec_Scale.ok M0)) := ⟨by
  intro args v h
  unfold vec_Scale.ph at h
  split at h
  · rename_i a0_0 a0_1 a0_2 a0_3 a0_4 a0_5 a1_0 a1_1
    simp only [Option.some.injEq, Prod.mk.injEq] at h
    obtain ⟨hok, rfl⟩ := h
    exact ⟨rfl, rfl, vec_Scale.call (⟨⟨a0_0, a0_1⟩, ⟨a0_2, a0_3⟩, ⟨a0_4, a0_5⟩⟩ : LV3) (⟨a1_0, a1_1⟩ : LSpan) hok⟩
  · cases h⟩
def vec_each_Add.k (_ : Prims) (c46 : LSpan → LSpan → LSpan) (c46ok : LSpan → LSpan → Bool) (a : LV3) (b : LV3) (k : LV3 → R) : R :=
  cond (c46ok a.p0 b.p0)
    (cond (c46ok a.p1 b.p1)
       (cond (c46ok a.p2 b.p2)
          (k (⟨(c46 a.p0 b.p0), (c46 a.p1 b.p1), (c46 a.p2 b.p2)⟩ : LV3))
          (none))
       (none))
    (none)
def vec_each_Add (M : Prims) (a : LV3) (b : LV3) : LV3 :=
  (⟨(span_Add M a.p0 b.p0), (span_Add M a.p1 b.p1), (span_Add M a.p2 b.p2)⟩ : LV3)
def vec_each_Add.ok (M : Prims) (a : LV3) (b : LV3) : Bool :=
  cond (span_Add.ok M a.p0 b.p0)
    (cond (span_Add.ok M a.p1 b.p1)
       (cond (span_Add.ok M a.p2 b.p2)
          (true)
          (false))
       (false))
    (false)
def vec_each_Add.fns (c46 : LSpan → LSpan → LSpan) (c46ok : LSpan → LSpan → Bool) : FuncId → List Value → Option (Bool × Value) := ifId 46 (span_Add.ph c46 c46ok) <| noFns
theorem vec_each_Add.fnsOK : PureFns Try.prog (vec_each_Add.fns (span_Add M0) (span_Add.ok M0)) := ifIdOK span_Add.phOK <| noFnsOK
theorem vec_each_Add.ev (M : Prims) (c46 : LSpan → LSpan → LSpan) (c46ok : LSpan → LSpan → Bool)  (a : LV3) (b : LV3) : evP tab M (vec_each_Add.fns c46 c46ok) noLoops 300 Try.f86 [a.val, b.val, .func (.func 46) ⟨[]⟩ ⟨[]⟩] = vec_each_Add.k M c46 c46ok  a b (fun r => some (r.val, [])) := by kernel_rfl
theorem vec_each_Add.k_eq (M : Prims) (a : LV3) (b : LV3) (k : LV3 → R) : vec_each_Add.ok M a b = true → vec_each_Add.k M (span_Add M) (span_Add.ok M) a b k = k (vec_each_Add M a b) := by
  unfold vec_each_Add.ok vec_each_Add.k vec_each_Add
  exact kL (kL (kL (fun _ => rfl)))
theorem vec_each_Add.call (a : LV3) (b : LV3) (h : vec_each_Add.ok M0 a b = true) : PureOK Try.prog 86 [a.val, b.val, .func (.func 46) ⟨[]⟩ ⟨[]⟩] ((vec_each_Add M0 a b).val) :=
  evP_sound (P := Try.prog) mixed tabOK vec_each_Add.fnsOK Try.func86 rfl (Λ := noLoops) (c := Try.f86.body.getD .skip) rfl (noLoopsOK _) rfl (Nat.zero_le 1) rfl rfl ((vec_each_Add.ev M0 (span_Add M0) (span_Add.ok M0) a b).trans (vec_each_Add.k_eq M0 a b _ h))
def vec_each_Add.ph (c86_46 : LV3 → LV3 → LV3) (c86_46ok : LV3 → LV3 → Bool) : Ph := fun args => match args with
  | [.agg ⟨[.float .f64 a0_0, .float .f64 a0_1, .float .f64 a0_2, .float .f64 a0_3, .float .f64 a0_4, .float .f64 a0_5]⟩, .agg ⟨[.float .f64 a1_0, .float .f64 a1_1, .float .f64 a1_2, .float .f64 a1_3, .float .f64 a1_4, .float .f64 a1_5]⟩, .func (.func 46) ⟨[]⟩ ⟨[]⟩] => some (c86_46ok (⟨⟨a0_0, a0_1⟩, ⟨a0_2, a0_3⟩, ⟨a0_4, a0_5⟩⟩ : LV3) (⟨⟨a1_0, a1_1⟩, ⟨a1_2, a1_3⟩, ⟨a1_4, a1_5⟩⟩ : LV3), (c86_46 (⟨⟨a0_0, a0_1⟩, ⟨a0_2, a0_3⟩, ⟨a0_4, a0_5⟩⟩ : LV3) (⟨⟨a1_0, a1_1⟩, ⟨a1_2, a1_3⟩, ⟨a1_4, a1_5⟩⟩ : LV3)).val)
  | _ => none
theorem vec_each_Add.phOK : PhOK Try.prog 86 (vec_each_Add.ph (vec_each_Add M0) (vec_each_Add.ok M0)) := ⟨by
  intro args v h
  unfold vec_each_Add.ph at h
  split at h
  · rename_i a0_0 a0_1 a0_2 a0_3 a0_4 a0_5 a1_0 a1_1 a1_2 a1_3 a1_4 a1_5
    simp only [Option.some.injEq, Prod.mk.injEq] at h
    obtain ⟨hok, rfl⟩ := h
    exact ⟨rfl, rfl, vec_each_Add.call (⟨⟨a0_0, a0_1⟩, ⟨a0_2, a0_3⟩, ⟨a0_4, a0_5⟩⟩ : LV3) (⟨⟨a1_0, a1_1⟩, ⟨a1_2, a1_3⟩, ⟨a1_4, a1_5⟩⟩ : LV3) hok⟩
  · cases h⟩
def vec_Add.k (_ : Prims) (c86_46 : LV3 → LV3 → LV3) (c86_46ok : LV3 → LV3 → Bool) (a : LV3) (b : LV3) (k : LV3 → R) : R :=
  cond (c86_46ok a b)
    (k (c86_46 a b))
    (none)
def vec_Add (M : Prims) (a : LV3) (b : LV3) : LV3 :=
  (vec_each_Add M a b)
def vec_Add.ok (M : Prims) (a : LV3) (b : LV3) : Bool :=
  cond (vec_each_Add.ok M a b)
    (true)
    (false)
def vec_Add.fns (c86_46 : LV3 → LV3 → LV3) (c86_46ok : LV3 → LV3 → Bool) : FuncId → List Value → Option (Bool × Value) := ifId 86 (vec_each_Add.ph c86_46 c86_46ok) <| noFns
theorem vec_Add.fnsOK : PureFns Try.prog (vec_Add.fns (vec_each_Add M0) (vec_each_Add.ok M0)) := ifIdOK vec_each_Add.phOK <| noFnsOK
theorem vec_Add.ev (M : Prims) (c86_46 : LV3 → LV3 → LV3) (c86_46ok : LV3 → LV3 → Bool)  (a : LV3) (b : LV3) : evP tab M (vec_Add.fns c86_46 c86_46ok) noLoops 300 Try.f49 [a.val, b.val] = vec_Add.k M c86_46 c86_46ok  a b (fun r => some (r.val, [])) := by kernel_rfl
theorem vec_Add.k_eq (M : Prims) (a : LV3) (b : LV3) (k : LV3 → R) : vec_Add.ok M a b = true → vec_Add.k M (vec_each_Add M) (vec_each_Add.ok M) a b k = k (vec_Add M a b) := by
  unfold vec_Add.ok vec_Add.k vec_Add
  exact kL (fun _ => rfl)
theorem vec_Add.call (a : LV3) (b : LV3) (h : vec_Add.ok M0 a b = true) : PureOK Try.prog 49 [a.val, b.val] ((vec_Add M0 a b).val) :=
  evP_sound (P := Try.prog) mixed tabOK vec_Add.fnsOK Try.func49 rfl (Λ := noLoops) (c := Try.f49.body.getD .skip) rfl (noLoopsOK _) rfl (Nat.zero_le 1) rfl rfl ((vec_Add.ev M0 (vec_each_Add M0) (vec_each_Add.ok M0) a b).trans (vec_Add.k_eq M0 a b _ h))
def vec_Add.ph (c49 : LV3 → LV3 → LV3) (c49ok : LV3 → LV3 → Bool) : Ph := fun args => match args with
  | [.agg ⟨[.float .f64 a0_0, .float .f64 a0_1, .float .f64 a0_2, .float .f64 a0_3, .float .f64 a0_4, .float .f64 a0_5]⟩, .agg ⟨[.float .f64 a1_0, .float .f64 a1_1, .float .f64 a1_2, .float .f64 a1_3, .float .f64 a1_4, .float .f64 a1_5]⟩] => some (c49ok (⟨⟨a0_0, a0_1⟩, ⟨a0_2, a0_3⟩, ⟨a0_4, a0_5⟩⟩ : LV3) (⟨⟨a1_0, a1_1⟩, ⟨a1_2, a1_3⟩, ⟨a1_4, a1_5⟩⟩ : LV3), (c49 (⟨⟨a0_0, a0_1⟩, ⟨a0_2, a0_3⟩, ⟨a0_4, a0_5⟩⟩ : LV3) (⟨⟨a1_0, a1_1⟩, ⟨a1_2, a1_3⟩, ⟨a1_4, a1_5⟩⟩ : LV3)).val)
  | _ => none
theorem vec_Add.phOK : PhOK Try.prog 49 (vec_Add.ph (vec_Add M0) (vec_Add.ok M0)) := ⟨by
  intro args v h
  unfold vec_Add.ph at h
  split at h
  · rename_i a0_0 a0_1 a0_2 a0_3 a0_4 a0_5 a1_0 a1_1 a1_2 a1_3 a1_4 a1_5
    simp only [Option.some.injEq, Prod.mk.injEq] at h
    obtain ⟨hok, rfl⟩ := h
    exact ⟨rfl, rfl, vec_Add.call (⟨⟨a0_0, a0_1⟩, ⟨a0_2, a0_3⟩, ⟨a0_4, a0_5⟩⟩ : LV3) (⟨⟨a1_0, a1_1⟩, ⟨a1_2, a1_3⟩, ⟨a1_4, a1_5⟩⟩ : LV3) hok⟩
  · cases h⟩
def shape_Spread.k (_ : Prims) (c40 : LSpan → LSpan → LSpan) (c40ok : LSpan → LSpan → Bool) (c41 : Nat → LSpan) (c41ok : Nat → Bool) (c45 : LSpan → LSpan → LSpan) (c45ok : LSpan → LSpan → Bool) (c47 : LSpan → LSpan) (c47ok : LSpan → Bool) (c48 : LShape → LV3 × LV3) (c48ok : LShape → Bool) (c49 : LV3 → LV3 → LV3) (c49ok : LV3 → LV3 → Bool) (c50 : LV3 → LSpan → LV3) (c50ok : LV3 → LSpan → Bool) (s : LShape) (u : Nat) (v : Nat) (k : LV3 → R) : R :=
  cond ((s.kind : Int) != 1)
    (k (⟨(⟨0, 0⟩ : LSpan), (⟨0, 0⟩ : LSpan), (⟨0, 0⟩ : LSpan)⟩ : LV3))
    (let x2 := c41 u
     cond (c41ok u)
       (let x3 := c47 x2
        cond (c47ok x2)
          (let x4 := c48 s
           cond (c48ok s)
             (let x5 := c41 4607182418800017408
              cond (c41ok 4607182418800017408)
                (let x6 := c41 v
                 cond (c41ok v)
                   (let x7 := c45 x5 x6
                    cond (c45ok x5 x6)
                      (let x8 := c40 x3 x7
                       cond (c40ok x3 x7)
                         (let x9 := c41 v
                          cond (c41ok v)
                            (let x10 := c40 x3 x9
                             cond (c40ok x3 x9)
                               (let x11 := c50 x4.1 x8
                                cond (c50ok x4.1 x8)
                                  (let x12 := c50 x4.2 x10
                                   cond (c50ok x4.2 x10)
                                     (let x13 := c49 x11 x12
                                      cond (c49ok x11 x12)
                                        (cond (c49ok s.p.p0 x13)
                                           (k (c49 s.p.p0 x13))
                                           (none))
                                        (none))
                                     (none))
                                  (none))
                               (none))
                            (none))
                         (none))
                      (none))
                   (none))
                (none))
             (none))
          (none))
       (none))
def shape_Spread (M : Prims) (s : LShape) (u : Nat) (v : Nat) : LV3 :=
  cond ((s.kind : Int) != 1)
    ((⟨(⟨0, 0⟩ : LSpan), (⟨0, 0⟩ : LSpan), (⟨0, 0⟩ : LSpan)⟩ : LV3))
    (let x3 := span_Sqrt M (span_Of M u)
     let x4 := shape_edges M s
     (vec_Add M s.p.p0 (vec_Add M (vec_Scale M x4.1 (span_Mul M x3 (span_Sub M (span_Of M 4607182418800017408) (span_Of M v)))) (vec_Scale M x4.2 (span_Mul M x3 (span_Of M v))))))
def shape_Spread.ok (M : Prims) (s : LShape) (u : Nat) (v : Nat) : Bool :=
  cond ((s.kind : Int) != 1)
    (true)
    (let x2 := span_Of M u
     cond (span_Of.ok M u)
       (let x3 := span_Sqrt M x2
        cond (span_Sqrt.ok M x2)
          (let x4 := shape_edges M s
           cond (shape_edges.ok M s)
             (let x5 := span_Of M 4607182418800017408
              cond (span_Of.ok M 4607182418800017408)
                (let x6 := span_Of M v
                 cond (span_Of.ok M v)
                   (let x7 := span_Sub M x5 x6
                    cond (span_Sub.ok M x5 x6)
                      (let x8 := span_Mul M x3 x7
                       cond (span_Mul.ok M x3 x7)
                         (let x9 := span_Of M v
                          cond (span_Of.ok M v)
                            (let x10 := span_Mul M x3 x9
                             cond (span_Mul.ok M x3 x9)
                               (let x11 := vec_Scale M x4.1 x8
                                cond (vec_Scale.ok M x4.1 x8)
                                  (let x12 := vec_Scale M x4.2 x10
                                   cond (vec_Scale.ok M x4.2 x10)
                                     (cond (vec_Add.ok M x11 x12)
                                        (cond (vec_Add.ok M s.p.p0 (vec_Add M x11 x12))
                                           (true)
                                           (false))
                                        (false))
                                     (false))
                                  (false))
                               (false))
                            (false))
                         (false))
                      (false))
                   (false))
                (false))
             (false))
          (false))
       (false))
def shape_Spread.fns (c40 : LSpan → LSpan → LSpan) (c40ok : LSpan → LSpan → Bool) (c41 : Nat → LSpan) (c41ok : Nat → Bool) (c45 : LSpan → LSpan → LSpan) (c45ok : LSpan → LSpan → Bool) (c47 : LSpan → LSpan) (c47ok : LSpan → Bool) (c48 : LShape → LV3 × LV3) (c48ok : LShape → Bool) (c49 : LV3 → LV3 → LV3) (c49ok : LV3 → LV3 → Bool) (c50 : LV3 → LSpan → LV3) (c50ok : LV3 → LSpan → Bool) : FuncId → List Value → Option (Bool × Value) := ifId 40 (span_Mul.ph c40 c40ok) <| ifId 41 (span_Of.ph c41 c41ok) <| ifId 45 (span_Sub.ph c45 c45ok) <| ifId 47 (span_Sqrt.ph c47 c47ok) <| ifId 48 (shape_edges.ph c48 c48ok) <| ifId 49 (vec_Add.ph c49 c49ok) <| ifId 50 (vec_Scale.ph c50 c50ok) <| noFns
theorem shape_Spread.fnsOK : PureFns Try.prog (shape_Spread.fns (span_Mul M0) (span_Mul.ok M0) (span_Of M0) (span_Of.ok M0) (span_Sub M0) (span_Sub.ok M0) (span_Sqrt M0) (span_Sqrt.ok M0) (shape_edges M0) (shape_edges.ok M0) (vec_Add M0) (vec_Add.ok M0) (vec_Scale M0) (vec_Scale.ok M0)) := ifIdOK span_Mul.phOK <| ifIdOK span_Of.phOK <| ifIdOK span_Sub.phOK <| ifIdOK span_Sqrt.phOK <| ifIdOK shape_edges.phOK <| ifIdOK vec_Add.phOK <| ifIdOK vec_Scale.phOK <| noFnsOK
theorem shape_Spread.ev (M : Prims) (c40 : LSpan → LSpan → LSpan) (c40ok : LSpan → LSpan → Bool) (c41 : Nat → LSpan) (c41ok : Nat → Bool) (c45 : LSpan → LSpan → LSpan) (c45ok : LSpan → LSpan → Bool) (c47 : LSpan → LSpan) (c47ok : LSpan → Bool) (c48 : LShape → LV3 × LV3) (c48ok : LShape → Bool) (c49 : LV3 → LV3 → LV3) (c49ok : LV3 → LV3 → Bool) (c50 : LV3 → LSpan → LV3) (c50ok : LV3 → LSpan → Bool)  (s : LShape) (u : Nat) (v : Nat) : evP tab M (shape_Spread.fns c40 c40ok c41 c41ok c45 c45ok c47 c47ok c48 c48ok c49 c49ok c50 c50ok) noLoops 300 Try.f19 [s.val, (.float .f64 u), (.float .f64 v)] = shape_Spread.k M c40 c40ok c41 c41ok c45 c45ok c47 c47ok c48 c48ok c49 c49ok c50 c50ok  s u v (fun r => some (r.val, [])) := by kernel_rfl
theorem shape_Spread.k_eq (M : Prims) (s : LShape) (u : Nat) (v : Nat) (k : LV3 → R) : shape_Spread.ok M s u v = true → shape_Spread.k M (span_Mul M) (span_Mul.ok M) (span_Of M) (span_Of.ok M) (span_Sub M) (span_Sub.ok M) (span_Sqrt M) (span_Sqrt.ok M) (shape_edges M) (shape_edges.ok M) (vec_Add M) (vec_Add.ok M) (vec_Scale M) (vec_Scale.ok M) s u v k = k (shape_Spread M s u v) := by
  unfold shape_Spread.ok shape_Spread.k shape_Spread
  exact kC (fun _ => rfl) (kL (kL (kL (kL (kL (kL (kL (kL (kL (kL (kL (kL (kL (fun _ => rfl))))))))))))))
theorem shape_Spread.call (s : LShape) (u : Nat) (v : Nat) (h : shape_Spread.ok M0 s u v = true) : PureOK Try.prog 19 [s.val, (.float .f64 u), (.float .f64 v)] ((shape_Spread M0 s u v).val) :=
  evP_sound (P := Try.prog) mixed tabOK shape_Spread.fnsOK Try.func19 rfl (Λ := noLoops) (c := Try.f19.body.getD .skip) rfl (noLoopsOK _) rfl (Nat.zero_le 1) rfl rfl ((shape_Spread.ev M0 (span_Mul M0) (span_Mul.ok M0) (span_Of M0) (span_Of.ok M0) (span_Sub M0) (span_Sub.ok M0) (span_Sqrt M0) (span_Sqrt.ok M0) (shape_edges M0) (shape_edges.ok M0) (vec_Add M0) (vec_Add.ok M0) (vec_Scale M0) (vec_Scale.ok M0) s u v).trans (shape_Spread.k_eq M0 s u v _ h))
def shape_Spread.ph (c19 : LShape → Nat → Nat → LV3) (c19ok : LShape → Nat → Nat → Bool) : Ph := fun args => match args with
  | [.agg ⟨[.int .i64 a0_0, .float .f64 a0_1, .float .f64 a0_2, .float .f64 a0_3, .float .f64 a0_4, .float .f64 a0_5, .float .f64 a0_6, .float .f64 a0_7, .float .f64 a0_8, .float .f64 a0_9, .float .f64 a0_10, .float .f64 a0_11, .float .f64 a0_12, .float .f64 a0_13, .float .f64 a0_14, .float .f64 a0_15, .float .f64 a0_16, .float .f64 a0_17, .float .f64 a0_18, .float .f64 a0_19, .float .f64 a0_20]⟩, .float .f64 a1_, .float .f64 a2_] => some (c19ok (⟨a0_0, ⟨⟨⟨a0_1, a0_2⟩, ⟨a0_3, a0_4⟩, ⟨a0_5, a0_6⟩⟩, ⟨⟨a0_7, a0_8⟩, ⟨a0_9, a0_10⟩, ⟨a0_11, a0_12⟩⟩, ⟨⟨a0_13, a0_14⟩, ⟨a0_15, a0_16⟩, ⟨a0_17, a0_18⟩⟩⟩, ⟨a0_19, a0_20⟩⟩ : LShape) a1_ a2_, (c19 (⟨a0_0, ⟨⟨⟨a0_1, a0_2⟩, ⟨a0_3, a0_4⟩, ⟨a0_5, a0_6⟩⟩, ⟨⟨a0_7, a0_8⟩, ⟨a0_9, a0_10⟩, ⟨a0_11, a0_12⟩⟩, ⟨⟨a0_13, a0_14⟩, ⟨a0_15, a0_16⟩, ⟨a0_17, a0_18⟩⟩⟩, ⟨a0_19, a0_20⟩⟩ : LShape) a1_ a2_).val)
  | _ => none
theorem shape_Spread.phOK : PhOK Try.prog 19 (shape_Spread.ph (shape_Spread M0) (shape_Spread.ok M0)) := ⟨by
  intro args v h
  unfold shape_Spread.ph at h
  split at h
  · rename_i a0_0 a0_1 a0_2 a0_3 a0_4 a0_5 a0_6 a0_7 a0_8 a0_9 a0_10 a0_11 a0_12 a0_13 a0_14 a0_15 a0_16 a0_17 a0_18 a0_19 a0_20 a1_ a2_
    simp only [Option.some.injEq, Prod.mk.injEq] at h
    obtain ⟨hok, rfl⟩ := h
    exact ⟨rfl, rfl, shape_Spread.call (⟨a0_0, ⟨⟨⟨a0_1, a0_2⟩, ⟨a0_3, a0_4⟩, ⟨a0_5, a0_6⟩⟩, ⟨⟨a0_7, a0_8⟩, ⟨a0_9, a0_10⟩, ⟨a0_11, a0_12⟩⟩, ⟨⟨a0_13, a0_14⟩, ⟨a0_15, a0_16⟩, ⟨a0_17, a0_18⟩⟩⟩, ⟨a0_19, a0_20⟩⟩ : LShape) a1_ a2_ hok⟩
  · cases h⟩
end Go.Lan
