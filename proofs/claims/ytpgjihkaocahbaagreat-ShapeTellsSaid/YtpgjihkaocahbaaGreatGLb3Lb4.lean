import Derived.Test.YtpgjihkaocahbaaGreatGLb1Lb2
namespace Go.Lan
open Go.Proofs
def round_Mul.k (_ : Prims) (c139 : Nat → Nat → Bool) (c139ok : Nat → Nat → Bool) (c140 : Nat → LExact) (c140ok : Nat → Bool) (c141 : Int → Int → Int × Int) (c142 : LExact → Bool → Nat) (c142ok : LExact → Bool → Bool) (a : Nat) (b : Nat) (down : Bool) (k : Nat × Int → R) : R :=
  cond (c139ok a b)
    (cond (!(c139 a b))
       (k (0, 10))
       (let x3 := c140 a
        cond (c140ok a)
          (let x4 := c140 b
           cond (c140ok b)
             (let x5 := c141 x3.lo x4.lo
              let x6 := !(x3.neg == x4.neg)
              let x7 := IntKind.i64.wrap (x3.e + x4.e)
              cond (c142ok (⟨x6, x5.1, x5.2, x7, false⟩ : LExact) down)
                (k ((c142 (⟨x6, x5.1, x5.2, x7, false⟩ : LExact) down), 0))
                (none))
             (none))
          (none)))
    (none)
def round_Mul (M : Prims) (a : Nat) (b : Nat) (down : Bool) : Nat × Int :=
  cond (!(round_two M a b))
    ((0, 10))
    (let x3 := round_split M a
     let x4 := round_split M b
     let x5 := bits_Mul64 M x3.lo x4.lo
     ((round_exact_to M (⟨(!(x3.neg == x4.neg)), x5.1, x5.2, (IntKind.i64.wrap (x3.e + x4.e)), false⟩ : LExact) down), 0))
def round_Mul.ok (M : Prims) (a : Nat) (b : Nat) (down : Bool) : Bool :=
  cond (round_two.ok M a b)
    (cond (!(round_two M a b))
       (true)
       (let x3 := round_split M a
        cond (round_split.ok M a)
          (let x4 := round_split M b
           cond (round_split.ok M b)
             (let x5 := bits_Mul64 M x3.lo x4.lo
              cond (round_exact_to.ok M (⟨(!(x3.neg == x4.neg)), x5.1, x5.2, (IntKind.i64.wrap (x3.e + x4.e)), false⟩ : LExact) down)
                (true)
                (false))
             (false))
          (false)))
    (false)
def round_Mul.fns (c139 : Nat → Nat → Bool) (c139ok : Nat → Nat → Bool) (c140 : Nat → LExact) (c140ok : Nat → Bool) (c141 : Int → Int → Int × Int) (c142 : LExact → Bool → Nat) (c142ok : LExact → Bool → Bool) : FuncId → List Value → Option (Bool × Value) := ifId 139 (round_two.ph c139 c139ok) <| ifId 140 (round_split.ph c140 c140ok) <| ifId 141 (bits_Mul64.ph c141) <| ifId 142 (round_exact_to.ph c142 c142ok) <| noFns
theorem round_Mul.fnsOK : PureFns Tryz.prog (round_Mul.fns (round_two M0) (round_two.ok M0) (round_split M0) (round_split.ok M0) (bits_Mul64 M0) (round_exact_to M0) (round_exact_to.ok M0)) := ifIdOK round_two.phOK <| ifIdOK round_split.phOK <| ifIdOK bits_Mul64.phOK <| ifIdOK round_exact_to.phOK <| noFnsOK
theorem round_Mul.ev (M : Prims) (c139 : Nat → Nat → Bool) (c139ok : Nat → Nat → Bool) (c140 : Nat → LExact) (c140ok : Nat → Bool) (c141 : Int → Int → Int × Int) (c142 : LExact → Bool → Nat) (c142ok : LExact → Bool → Bool)  (a : Nat) (b : Nat) (down : Bool) : evP tab M (round_Mul.fns c139 c139ok c140 c140ok c141 c142 c142ok) noLoops 300 Tryz.f95 [(.float .f64 a), (.float .f64 b), (.bool down)] = round_Mul.k M c139 c139ok c140 c140ok c141 c142 c142ok  a b down (fun r => some (.tuple ⟨[(.float .f64 r.1), (.int .i64 r.2)]⟩, [])) := by kernel_rfl
theorem round_Mul.k_eq (M : Prims) (a : Nat) (b : Nat) (down : Bool) (k : Nat × Int → R) : round_Mul.ok M a b down = true → round_Mul.k M (round_two M) (round_two.ok M) (round_split M) (round_split.ok M) (bits_Mul64 M) (round_exact_to M) (round_exact_to.ok M) a b down k = k (round_Mul M a b down) := by
  unfold round_Mul.ok round_Mul.k round_Mul
  exact kL (kC (fun _ => rfl) (kL (kL (kL (fun _ => rfl)))))
theorem round_Mul.call (a : Nat) (b : Nat) (down : Bool) (h : round_Mul.ok M0 a b down = true) : PureOK Tryz.prog 95 [(.float .f64 a), (.float .f64 b), (.bool down)] (.tuple ⟨[(.float .f64 ((round_Mul M0 a b down).1)), (.int .i64 ((round_Mul M0 a b down).2))]⟩) :=
  evP_sound (P := Tryz.prog) mixed tabOK round_Mul.fnsOK Tryz.func95 rfl (Λ := noLoops) (c := Tryz.f95.body.getD .skip) rfl (noLoopsOK _) rfl (Nat.zero_le 1) rfl rfl ((round_Mul.ev M0 (round_two M0) (round_two.ok M0) (round_split M0) (round_split.ok M0) (bits_Mul64 M0) (round_exact_to M0) (round_exact_to.ok M0) a b down).trans (round_Mul.k_eq M0 a b down _ h))
def round_Mul.ph (c95 : Nat → Nat → Bool → Nat × Int) (c95ok : Nat → Nat → Bool → Bool) : Ph := fun args => match args with
  | [.float .f64 a0_, .float .f64 a1_, .bool a2_] => some (c95ok a0_ a1_ a2_, .tuple ⟨[(.float .f64 ((c95 a0_ a1_ a2_).1)), (.int .i64 ((c95 a0_ a1_ a2_).2))]⟩)
  | _ => none
theorem round_Mul.phOK : PhOK Tryz.prog 95 (round_Mul.ph (round_Mul M0) (round_Mul.ok M0)) := ⟨by
  intro args v h
  unfold round_Mul.ph at h
  split at h
  · rename_i a0_ a1_ a2_
    simp only [Option.some.injEq, Prod.mk.injEq] at h
    obtain ⟨hok, rfl⟩ := h
    exact ⟨rfl, rfl, round_Mul.call a0_ a1_ a2_ hok⟩
  · cases h⟩
def span_Mul.k (M : Prims) (c67 : Int → Nat) (c93 : LSpan → Bool) (c93ok : LSpan → Bool) (c94 : LSpan) (c95 : Nat → Nat → Bool → Nat × Int) (c95ok : Nat → Nat → Bool → Bool) (a : LSpan) (b : LSpan) (k : LSpan → R) : R :=
  cond (M.eq a.lo 0 && (M.eq a.hi 0 && true))
    (k (⟨0, 0⟩ : LSpan))
    (cond (M.eq b.lo 0 && (M.eq b.hi 0 && true))
       (k (⟨0, 0⟩ : LSpan))
       (cond (c93ok a)
          (cond (c93 a)
             (k c94)
             (cond (c93ok b)
                (cond (c93 b)
                   (k c94)
                   (cond (c95ok a.lo b.lo true)
                      (cond (c95ok a.lo b.lo false)
                         (cond (c95ok a.lo b.hi true)
                            (cond (c95ok a.lo b.hi false)
                               (cond (c95ok a.hi b.lo true)
                                  (cond (c95ok a.hi b.lo false)
                                     (cond (c95ok a.hi b.hi true)
                                        (cond (c95ok a.hi b.hi false)
                                           (k (⟨(M.min (M.min (M.min (M.min (c67 1) (c95 a.lo b.lo true).1) (c95 a.lo b.hi true).1) (c95 a.hi b.lo true).1) (c95 a.hi b.hi true).1), (M.max (M.max (M.max (M.max (c67 (-1)) (c95 a.lo b.lo false).1) (c95 a.lo b.hi false).1) (c95 a.hi b.lo false).1) (c95 a.hi b.hi false).1)⟩ : LSpan))
                                           (none))
                                        (none))
                                     (none))
                                  (none))
                               (none))
                            (none))
                         (none))
                      (none)))
                (none)))
          (none)))
def span_Mul (M : Prims) (a : LSpan) (b : LSpan) : LSpan :=
  cond (M.eq a.lo 0 && (M.eq a.hi 0 && true))
    ((⟨0, 0⟩ : LSpan))
    (cond (M.eq b.lo 0 && (M.eq b.hi 0 && true))
       ((⟨0, 0⟩ : LSpan))
       (cond (span_Wide M a)
          ((span_All M))
          (cond (span_Wide M b)
             ((span_All M))
             ((⟨(M.min (M.min (M.min (M.min (math_Inf M 1) (round_Mul M a.lo b.lo true).1) (round_Mul M a.lo b.hi true).1) (round_Mul M a.hi b.lo true).1) (round_Mul M a.hi b.hi true).1), (M.max (M.max (M.max (M.max (math_Inf M (-1)) (round_Mul M a.lo b.lo false).1) (round_Mul M a.lo b.hi false).1) (round_Mul M a.hi b.lo false).1) (round_Mul M a.hi b.hi false).1)⟩ : LSpan)))))
def span_Mul.ok (M : Prims) (a : LSpan) (b : LSpan) : Bool :=
  cond (M.eq a.lo 0 && (M.eq a.hi 0 && true))
    (true)
    (cond (M.eq b.lo 0 && (M.eq b.hi 0 && true))
       (true)
       (cond (span_Wide.ok M a)
          (cond (span_Wide M a)
             (true)
             (cond (span_Wide.ok M b)
                (cond (span_Wide M b)
                   (true)
                   (cond (round_Mul.ok M a.lo b.lo true)
                      (cond (round_Mul.ok M a.lo b.lo false)
                         (cond (round_Mul.ok M a.lo b.hi true)
                            (cond (round_Mul.ok M a.lo b.hi false)
                               (cond (round_Mul.ok M a.hi b.lo true)
                                  (cond (round_Mul.ok M a.hi b.lo false)
                                     (cond (round_Mul.ok M a.hi b.hi true)
                                        (cond (round_Mul.ok M a.hi b.hi false)
                                           (true)
                                           (false))
                                        (false))
                                     (false))
                                  (false))
                               (false))
                            (false))
                         (false))
                      (false)))
                (false)))
          (false)))
def span_Mul.fns (c67 : Int → Nat) (c93 : LSpan → Bool) (c93ok : LSpan → Bool) (c94 : LSpan) (c95 : Nat → Nat → Bool → Nat × Int) (c95ok : Nat → Nat → Bool → Bool) : FuncId → List Value → Option (Bool × Value) := ifId 67 (math_Inf.ph c67) <| ifId 93 (span_Wide.ph c93 c93ok) <| ifId 94 (span_All.ph c94) <| ifId 95 (round_Mul.ph c95 c95ok) <| noFns
theorem span_Mul.fnsOK : PureFns Tryz.prog (span_Mul.fns (math_Inf M0) (span_Wide M0) (span_Wide.ok M0) (span_All M0) (round_Mul M0) (round_Mul.ok M0)) := ifIdOK math_Inf.phOK <| ifIdOK span_Wide.phOK <| ifIdOK span_All.phOK <| ifIdOK round_Mul.phOK <| noFnsOK
theorem span_Mul.ev (M : Prims) (c67 : Int → Nat) (c93 : LSpan → Bool) (c93ok : LSpan → Bool) (c94 : LSpan) (c95 : Nat → Nat → Bool → Nat × Int) (c95ok : Nat → Nat → Bool → Bool)  (a : LSpan) (b : LSpan) : evP tab M (span_Mul.fns c67 c93 c93ok c94 c95 c95ok) noLoops 300 Tryz.f49 [a.val, b.val] = span_Mul.k M c67 c93 c93ok c94 c95 c95ok  a b (fun r => some (r.val, [])) := by kernel_rfl
theorem span_Mul.k_eq (M : Prims) (a : LSpan) (b : LSpan) (k : LSpan → R) : span_Mul.ok M a b = true → span_Mul.k M (math_Inf M) (span_Wide M) (span_Wide.ok M) (span_All M) (round_Mul M) (round_Mul.ok M) a b k = k (span_Mul M a b) := by
  unfold span_Mul.ok span_Mul.k span_Mul
  exact kC (fun _ => rfl) (kC (fun _ => rfl) (kL (kC (fun _ => rfl) (kL (kC (fun _ => rfl) (kL (kL (kL (kL (kL (kL (kL (kL (fun _ => rfl))))))))))))))
theorem span_Mul.call (a : LSpan) (b : LSpan) (h : span_Mul.ok M0 a b = true) : PureOK Tryz.prog 49 [a.val, b.val] ((span_Mul M0 a b).val) :=
  evP_sound (P := Tryz.prog) mixed tabOK span_Mul.fnsOK Tryz.func49 rfl (Λ := noLoops) (c := Tryz.f49.body.getD .skip) rfl (noLoopsOK _) rfl (Nat.zero_le 1) rfl rfl ((span_Mul.ev M0 (math_Inf M0) (span_Wide M0) (span_Wide.ok M0) (span_All M0) (round_Mul M0) (round_Mul.ok M0) a b).trans (span_Mul.k_eq M0 a b _ h))
def span_Mul.ph (c49 : LSpan → LSpan → LSpan) (c49ok : LSpan → LSpan → Bool) : Ph := fun args => match args with
  | [.agg ⟨[.float .f64 a0_0, .float .f64 a0_1]⟩, .agg ⟨[.float .f64 a1_0, .float .f64 a1_1]⟩] => some (c49ok (⟨a0_0, a0_1⟩ : LSpan) (⟨a1_0, a1_1⟩ : LSpan), (c49 (⟨a0_0, a0_1⟩ : LSpan) (⟨a1_0, a1_1⟩ : LSpan)).val)
  | _ => none
theorem span_Mul.phOK : PhOK Tryz.prog 49 (span_Mul.ph (span_Mul M0) (span_Mul.ok M0)) := ⟨by
  intro args v h
  unfold span_Mul.ph at h
  split at h
  · rename_i a0_0 a0_1 a1_0 a1_1
    simp only [Option.some.injEq, Prod.mk.injEq] at h
    obtain ⟨hok, rfl⟩ := h
    exact ⟨rfl, rfl, span_Mul.call (⟨a0_0, a0_1⟩ : LSpan) (⟨a1_0, a1_1⟩ : LSpan) hok⟩
  · cases h⟩
def vec_Cross.k (_ : Prims) (c49 : LSpan → LSpan → LSpan) (c49ok : LSpan → LSpan → Bool) (c54 : LSpan → LSpan → LSpan) (c54ok : LSpan → LSpan → Bool) (a : LV3) (b : LV3) (k : LV3 → R) : R :=
  let x1 := c49 a.p1 b.p2
  cond (c49ok a.p1 b.p2)
    (let x2 := c49 a.p2 b.p1
     cond (c49ok a.p2 b.p1)
       (cond (c54ok x1 x2)
          (let x4 := c49 a.p2 b.p0
           cond (c49ok a.p2 b.p0)
             (let x5 := c49 a.p0 b.p2
              cond (c49ok a.p0 b.p2)
                (cond (c54ok x4 x5)
                   (let x7 := c49 a.p0 b.p1
                    cond (c49ok a.p0 b.p1)
                      (let x8 := c49 a.p1 b.p0
                       cond (c49ok a.p1 b.p0)
                         (cond (c54ok x7 x8)
                            (k (⟨(c54 x1 x2), (c54 x4 x5), (c54 x7 x8)⟩ : LV3))
                            (none))
                         (none))
                      (none))
                   (none))
                (none))
             (none))
          (none))
       (none))
    (none)
def vec_Cross (M : Prims) (a : LV3) (b : LV3) : LV3 :=
  (⟨(span_Sub M (span_Mul M a.p1 b.p2) (span_Mul M a.p2 b.p1)), (span_Sub M (span_Mul M a.p2 b.p0) (span_Mul M a.p0 b.p2)), (span_Sub M (span_Mul M a.p0 b.p1) (span_Mul M a.p1 b.p0))⟩ : LV3)
def vec_Cross.ok (M : Prims) (a : LV3) (b : LV3) : Bool :=
  cond (span_Mul.ok M a.p1 b.p2)
    (cond (span_Mul.ok M a.p2 b.p1)
       (cond (span_Sub.ok M (span_Mul M a.p1 b.p2) (span_Mul M a.p2 b.p1))
          (cond (span_Mul.ok M a.p2 b.p0)
             (cond (span_Mul.ok M a.p0 b.p2)
                (cond (span_Sub.ok M (span_Mul M a.p2 b.p0) (span_Mul M a.p0 b.p2))
                   (cond (span_Mul.ok M a.p0 b.p1)
                      (cond (span_Mul.ok M a.p1 b.p0)
                         (cond (span_Sub.ok M (span_Mul M a.p0 b.p1) (span_Mul M a.p1 b.p0))
                            (true)
                            (false))
                         (false))
                      (false))
                   (false))
                (false))
             (false))
          (false))
       (false))
    (false)
def vec_Cross.fns (c49 : LSpan → LSpan → LSpan) (c49ok : LSpan → LSpan → Bool) (c54 : LSpan → LSpan → LSpan) (c54ok : LSpan → LSpan → Bool) : FuncId → List Value → Option (Bool × Value) := ifId 49 (span_Mul.ph c49 c49ok) <| ifId 54 (span_Sub.ph c54 c54ok) <| noFns
theorem vec_Cross.fnsOK : PureFns Tryz.prog (vec_Cross.fns (span_Mul M0) (span_Mul.ok M0) (span_Sub M0) (span_Sub.ok M0)) := ifIdOK span_Mul.phOK <| ifIdOK span_Sub.phOK <| noFnsOK
theorem vec_Cross.ev (M : Prims) (c49 : LSpan → LSpan → LSpan) (c49ok : LSpan → LSpan → Bool) (c54 : LSpan → LSpan → LSpan) (c54ok : LSpan → LSpan → Bool)  (a : LV3) (b : LV3) : evP tab M (vec_Cross.fns c49 c49ok c54 c54ok) noLoops 300 Tryz.f43 [a.val, b.val] = vec_Cross.k M c49 c49ok c54 c54ok  a b (fun r => some (r.val, [])) := by kernel_rfl
theorem vec_Cross.k_eq (M : Prims) (a : LV3) (b : LV3) (k : LV3 → R) : vec_Cross.ok M a b = true → vec_Cross.k M (span_Mul M) (span_Mul.ok M) (span_Sub M) (span_Sub.ok M) a b k = k (vec_Cross M a b) := by
  unfold vec_Cross.ok vec_Cross.k vec_Cross
  exact kL (kL (kL (kL (kL (kL (kL (kL (kL (fun _ => rfl)))))))))
theorem vec_Cross.call (a : LV3) (b : LV3) (h : vec_Cross.ok M0 a b = true) : PureOK Tryz.prog 43 [a.val, b.val] ((vec_Cross M0 a b).val) :=
  evP_sound (P := Tryz.prog) mixed tabOK vec_Cross.fnsOK Tryz.func43 rfl (Λ := noLoops) (c := Tryz.f43.body.getD .skip) rfl (noLoopsOK _) rfl (Nat.zero_le 1) rfl rfl ((vec_Cross.ev M0 (span_Mul M0) (span_Mul.ok M0) (span_Sub M0) (span_Sub.ok M0) a b).trans (vec_Cross.k_eq M0 a b _ h))
def vec_Cross.ph (c43 : LV3 → LV3 → LV3) (c43ok : LV3 → LV3 → Bool) : Ph := fun args => match args with
  | [.agg ⟨[.float .f64 a0_0, .float .f64 a0_1, .float .f64 a0_2, .float .f64 a0_3, .float .f64 a0_4, .float .f64 a0_5]⟩, .agg ⟨[.float .f64 a1_0, .float .f64 a1_1, .float .f64 a1_2, .float .f64 a1_3, .float .f64 a1_4, .float .f64 a1_5]⟩] => some (c43ok (⟨⟨a0_0, a0_1⟩, ⟨a0_2, a0_3⟩, ⟨a0_4, a0_5⟩⟩ : LV3) (⟨⟨a1_0, a1_1⟩, ⟨a1_2, a1_3⟩, ⟨a1_4, a1_5⟩⟩ : LV3), (c43 (⟨⟨a0_0, a0_1⟩, ⟨a0_2, a0_3⟩, ⟨a0_4, a0_5⟩⟩ : LV3) (⟨⟨a1_0, a1_1⟩, ⟨a1_2, a1_3⟩, ⟨a1_4, a1_5⟩⟩ : LV3)).val)
  | _ => none
theorem vec_Cross.phOK : PhOK Tryz.prog 43 (vec_Cross.ph (vec_Cross M0) (vec_Cross.ok M0)) := ⟨by
  intro args v h
  unfold vec_Cross.ph at h
  split at h
  · rename_i a0_0 a0_1 a0_2 a0_3 a0_4 a0_5 a1_0 a1_1 a1_2 a1_3 a1_4 a1_5
    simp only [Option.some.injEq, Prod.mk.injEq] at h
    obtain ⟨hok, rfl⟩ := h
    exact ⟨rfl, rfl, vec_Cross.call (⟨⟨a0_0, a0_1⟩, ⟨a0_2, a0_3⟩, ⟨a0_4, a0_5⟩⟩ : LV3) (⟨⟨a1_0, a1_1⟩, ⟨a1_2, a1_3⟩, ⟨a1_4, a1_5⟩⟩ : LV3) hok⟩
  · cases h⟩
def vec_each_Mul.k (_ : Prims) (c49 : LSpan → LSpan → LSpan) (c49ok : LSpan → LSpan → Bool) (a : LV3) (b : LV3) (k : LV3 → R) : R :=
  cond (c49ok a.p0 b.p0)
    (cond (c49ok a.p1 b.p1)
       (cond (c49ok a.p2 b.p2)
          (k (⟨(c49 a.p0 b.p0), (c49 a.p1 b.p1), (c49 a.p2 b.p2)⟩ : LV3))
          (none))
       (none))
    (none)
def vec_each_Mul (M : Prims) (a : LV3) (b : LV3) : LV3 :=
  (⟨(span_Mul M a.p0 b.p0), (span_Mul M a.p1 b.p1), (span_Mul M a.p2 b.p2)⟩ : LV3)
def vec_each_Mul.ok (M : Prims) (a : LV3) (b : LV3) : Bool :=
  cond (span_Mul.ok M a.p0 b.p0)
    (cond (span_Mul.ok M a.p1 b.p1)
       (cond (span_Mul.ok M a.p2 b.p2)
          (true)
          (false))
       (false))
    (false)
def vec_each_Mul.fns (c49 : LSpan → LSpan → LSpan) (c49ok : LSpan → LSpan → Bool) : FuncId → List Value → Option (Bool × Value) := ifId 49 (span_Mul.ph c49 c49ok) <| noFns
theorem vec_each_Mul.fnsOK : PureFns Tryz.prog (vec_each_Mul.fns (span_Mul M0) (span_Mul.ok M0)) := ifIdOK span_Mul.phOK <| noFnsOK
theorem vec_each_Mul.ev (M : Prims) (c49 : LSpan → LSpan → LSpan) (c49ok : LSpan → LSpan → Bool)  (a : LV3) (b : LV3) : evP tab M (vec_each_Mul.fns c49 c49ok) noLoops 300 Tryz.f89 [a.val, b.val, .func (.func 49) ⟨[]⟩ ⟨[]⟩] = vec_each_Mul.k M c49 c49ok  a b (fun r => some (r.val, [])) := by kernel_rfl
theorem vec_each_Mul.k_eq (M : Prims) (a : LV3) (b : LV3) (k : LV3 → R) : vec_each_Mul.ok M a b = true → vec_each_Mul.k M (span_Mul M) (span_Mul.ok M) a b k = k (vec_each_Mul M a b) := by
  unfold vec_each_Mul.ok vec_each_Mul.k vec_each_Mul
  exact kL (kL (kL (fun _ => rfl)))
theorem vec_each_Mul.call (a : LV3) (b : LV3) (h : vec_each_Mul.ok M0 a b = true) : PureOK Tryz.prog 89 [a.val, b.val, .func (.func 49) ⟨[]⟩ ⟨[]⟩] ((vec_each_Mul M0 a b).val) :=
  evP_sound (P := Tryz.prog) mixed tabOK vec_each_Mul.fnsOK Tryz.func89 rfl (Λ := noLoops) (c := Tryz.f89.body.getD .skip) rfl (noLoopsOK _) rfl (Nat.zero_le 1) rfl rfl ((vec_each_Mul.ev M0 (span_Mul M0) (span_Mul.ok M0) a b).trans (vec_each_Mul.k_eq M0 a b _ h))
def vec_each_Mul.ph (c89_49 : LV3 → LV3 → LV3) (c89_49ok : LV3 → LV3 → Bool) : Ph := fun args => match args with
  | [.agg ⟨[.float .f64 a0_0, .float .f64 a0_1, .float .f64 a0_2, .float .f64 a0_3, .float .f64 a0_4, .float .f64 a0_5]⟩, .agg ⟨[.float .f64 a1_0, .float .f64 a1_1, .float .f64 a1_2, .float .f64 a1_3, .float .f64 a1_4, .float .f64 a1_5]⟩, .func (.func 49) ⟨[]⟩ ⟨[]⟩] => some (c89_49ok (⟨⟨a0_0, a0_1⟩, ⟨a0_2, a0_3⟩, ⟨a0_4, a0_5⟩⟩ : LV3) (⟨⟨a1_0, a1_1⟩, ⟨a1_2, a1_3⟩, ⟨a1_4, a1_5⟩⟩ : LV3), (c89_49 (⟨⟨a0_0, a0_1⟩, ⟨a0_2, a0_3⟩, ⟨a0_4, a0_5⟩⟩ : LV3) (⟨⟨a1_0, a1_1⟩, ⟨a1_2, a1_3⟩, ⟨a1_4, a1_5⟩⟩ : LV3)).val)
  | _ => none
theorem vec_each_Mul.phOK : PhOK Tryz.prog 89 (vec_each_Mul.ph (vec_each_Mul M0) (vec_each_Mul.ok M0)) := ⟨by
  intro args v h
  unfold vec_each_Mul.ph at h
  split at h
  · rename_i a0_0 a0_1 a0_2 a0_3 a0_4 a0_5 a1_0 a1_1 a1_2 a1_3 a1_4 a1_5
    simp only [Option.some.injEq, Prod.mk.injEq] at h
    obtain ⟨hok, rfl⟩ := h
    exact ⟨rfl, rfl, vec_each_Mul.call (⟨⟨a0_0, a0_1⟩, ⟨a0_2, a0_3⟩, ⟨a0_4, a0_5⟩⟩ : LV3) (⟨⟨a1_0, a1_1⟩, ⟨a1_2, a1_3⟩, ⟨a1_4, a1_5⟩⟩ : LV3) hok⟩
  · cases h⟩
def vec_Times.k (_ : Prims) (c89_49 : LV3 → LV3 → LV3) (c89_49ok : LV3 → LV3 → Bool) (a : LV3) (b : LV3) (k : LV3 → R) : R :=
  cond (c89_49ok a b)
    (k (c89_49 a b))
    (none)
def vec_Times (M : Prims) (a : LV3) (b : LV3) : LV3 :=
  (vec_each_Mul M a b)
def vec_Times.ok (M : Prims) (a : LV3) (b : LV3) : Bool :=
  cond (vec_each_Mul.ok M a b)
    (true)
    (false)
def vec_Times.fns (c89_49 : LV3 → LV3 → LV3) (c89_49ok : LV3 → LV3 → Bool) : FuncId → List Value → Option (Bool × Value) := ifId 89 (vec_each_Mul.ph c89_49 c89_49ok) <| noFns
theorem vec_Times.fnsOK : PureFns Tryz.prog (vec_Times.fns (vec_each_Mul M0) (vec_each_Mul.ok M0)) := ifIdOK vec_each_Mul.phOK <| noFnsOK
theorem vec_Times.ev (M : Prims) (c89_49 : LV3 → LV3 → LV3) (c89_49ok : LV3 → LV3 → Bool)  (a : LV3) (b : LV3) : evP tab M (vec_Times.fns c89_49 c89_49ok) noLoops 300 Tryz.f104 [a.val, b.val] = vec_Times.k M c89_49 c89_49ok  a b (fun r => some (r.val, [])) := by kernel_rfl
theorem vec_Times.k_eq (M : Prims) (a : LV3) (b : LV3) (k : LV3 → R) : vec_Times.ok M a b = true → vec_Times.k M (vec_each_Mul M) (vec_each_Mul.ok M) a b k = k (vec_Times M a b) := by
  unfold vec_Times.ok vec_Times.k vec_Times
  exact kL (fun _ => rfl)
theorem vec_Times.call (a : LV3) (b : LV3) (h : vec_Times.ok M0 a b = true) : PureOK Tryz.prog 104 [a.val, b.val] ((vec_Times M0 a b).val) :=
  evP_sound (P := Tryz.prog) mixed tabOK vec_Times.fnsOK Tryz.func104 rfl (Λ := noLoops) (c := Tryz.f104.body.getD .skip) rfl (noLoopsOK _) rfl (Nat.zero_le 1) rfl rfl ((vec_Times.ev M0 (vec_each_Mul M0) (vec_each_Mul.ok M0) a b).trans (vec_Times.k_eq M0 a b _ h))
def vec_Times.ph (c104 : LV3 → LV3 → LV3) (c104ok : LV3 → LV3 → Bool) : Ph := fun args => match args with
  | [.agg ⟨[.float .f64 a0_0, .float .f64 a0_1, .float .f64 a0_2, .float .f64 a0_3, .float .f64 a0_4, .float .f64 a0_5]⟩, .agg ⟨[.float .f64 a1_0, .float .f64 a1_1, .float .f64 a1_2, .float .f64 a1_3, .float .f64 a1_4, .float .f64 a1_5]⟩] => some (c104ok (⟨⟨a0_0, a0_1⟩, ⟨a0_2, a0_3⟩, ⟨a0_4, a0_5⟩⟩ : LV3) (⟨⟨a1_0, a1_1⟩, ⟨a1_2, a1_3⟩, ⟨a1_4, a1_5⟩⟩ : LV3), (c104 (⟨⟨a0_0, a0_1⟩, ⟨a0_2, a0_3⟩, ⟨a0_4, a0_5⟩⟩ : LV3) (⟨⟨a1_0, a1_1⟩, ⟨a1_2, a1_3⟩, ⟨a1_4, a1_5⟩⟩ : LV3)).val)
  | _ => none
theorem vec_Times.phOK : PhOK Tryz.prog 104 (vec_Times.ph (vec_Times M0) (vec_Times.ok M0)) := ⟨by
  intro args v h
  unfold vec_Times.ph at h
  split at h
  · rename_i a0_0 a0_1 a0_2 a0_3 a0_4 a0_5 a1_0 a1_1 a1_2 a1_3 a1_4 a1_5
    simp only [Option.some.injEq, Prod.mk.injEq] at h
    obtain ⟨hok, rfl⟩ := h
    exact ⟨rfl, rfl, vec_Times.call (⟨⟨a0_0, a0_1⟩, ⟨a0_2, a0_3⟩, ⟨a0_4, a0_5⟩⟩ : LV3) (⟨⟨a1_0, a1_1⟩, ⟨a1_2, a1_3⟩, ⟨a1_4, a1_5⟩⟩ : LV3) hok⟩
  · cases h⟩
def vec_Dot.k (_ : Prims) (c104 : LV3 → LV3 → LV3) (c104ok : LV3 → LV3 → Bool) (c62 : LSpan → LSpan → LSpan) (c62ok : LSpan → LSpan → Bool) (a : LV3) (b : LV3) (k : LSpan → R) : R :=
  let x1 := c104 a b
  cond (c104ok a b)
    (let x2 := c62 x1.p0 x1.p1
     cond (c62ok x1.p0 x1.p1)
       (cond (c62ok x2 x1.p2)
          (k (c62 x2 x1.p2))
          (none))
       (none))
    (none)
def vec_Dot (M : Prims) (a : LV3) (b : LV3) : LSpan :=
  let x1 := vec_Times M a b
  (span_Add M (span_Add M x1.p0 x1.p1) x1.p2)
def vec_Dot.ok (M : Prims) (a : LV3) (b : LV3) : Bool :=
  let x1 := vec_Times M a b
  cond (vec_Times.ok M a b)
    (cond (span_Add.ok M x1.p0 x1.p1)
       (cond (span_Add.ok M (span_Add M x1.p0 x1.p1) x1.p2)
          (true)
          (false))
       (false))
    (false)
def vec_Dot.fns (c104 : LV3 → LV3 → LV3) (c104ok : LV3 → LV3 → Bool) (c62 : LSpan → LSpan → LSpan) (c62ok : LSpan → LSpan → Bool) : FuncId → List Value → Option (Bool × Value) := ifId 104 (vec_Times.ph c104 c104ok) <| ifId 62 (span_Add.ph c62 c62ok) <| noFns
theorem vec_Dot.fnsOK : PureFns Tryz.prog (vec_Dot.fns (vec_Times M0) (vec_Times.ok M0) (span_Add M0) (span_Add.ok M0)) := ifIdOK vec_Times.phOK <| ifIdOK span_Add.phOK <| noFnsOK
theorem vec_Dot.ev (M : Prims) (c104 : LV3 → LV3 → LV3) (c104ok : LV3 → LV3 → Bool) (c62 : LSpan → LSpan → LSpan) (c62ok : LSpan → LSpan → Bool)  (a : LV3) (b : LV3) : evP tab M (vec_Dot.fns c104 c104ok c62 c62ok) noLoops 300 Tryz.f129 [a.val, b.val] = vec_Dot.k M c104 c104ok c62 c62ok  a b (fun r => some (r.val, [])) := by kernel_rfl
theorem vec_Dot.k_eq (M : Prims) (a : LV3) (b : LV3) (k : LSpan → R) : vec_Dot.ok M a b = true → vec_Dot.k M (vec_Times M) (vec_Times.ok M) (span_Add M) (span_Add.ok M) a b k = k (vec_Dot M a b) := by
  unfold vec_Dot.ok vec_Dot.k vec_Dot
  exact kL (kL (kL (fun _ => rfl)))
theorem vec_Dot.call (a : LV3) (b : LV3) (h : vec_Dot.ok M0 a b = true) : PureOK Tryz.prog 129 [a.val, b.val] ((vec_Dot M0 a b).val) :=
  evP_sound (P := Tryz.prog) mixed tabOK vec_Dot.fnsOK Tryz.func129 rfl (Λ := noLoops) (c := Tryz.f129.body.getD .skip) rfl (noLoopsOK _) rfl (Nat.zero_le 1) rfl rfl ((vec_Dot.ev M0 (vec_Times M0) (vec_Times.ok M0) (span_Add M0) (span_Add.ok M0) a b).trans (vec_Dot.k_eq M0 a b _ h))
def vec_Dot.ph (c129 : LV3 → LV3 → LSpan) (c129ok : LV3 → LV3 → Bool) : Ph := fun args => match args with
  | [.agg ⟨[.float .f64 a0_0, .float .f64 a0_1, .float .f64 a0_2, .float .f64 a0_3, .float .f64 a0_4, .float .f64 a0_5]⟩, .agg ⟨[.float .f64 a1_0, .float .f64 a1_1, .float .f64 a1_2, .float .f64 a1_3, .float .f64 a1_4, .float .f64 a1_5]⟩] => some (c129ok (⟨⟨a0_0, a0_1⟩, ⟨a0_2, a0_3⟩, ⟨a0_4, a0_5⟩⟩ : LV3) (⟨⟨a1_0, a1_1⟩, ⟨a1_2, a1_3⟩, ⟨a1_4, a1_5⟩⟩ : LV3), (c129 (⟨⟨a0_0, a0_1⟩, ⟨a0_2, a0_3⟩, ⟨a0_4, a0_5⟩⟩ : LV3) (⟨⟨a1_0, a1_1⟩, ⟨a1_2, a1_3⟩, ⟨a1_4, a1_5⟩⟩ : LV3)).val)
  | _ => none
theorem vec_Dot.phOK : PhOK Tryz.prog 129 (vec_Dot.ph (vec_Dot M0) (vec_Dot.ok M0)) := ⟨by
  intro args v h
  unfold vec_Dot.ph at h
  split at h
  · rename_i a0_0 a0_1 a0_2 a0_3 a0_4 a0_5 a1_0 a1_1 a1_2 a1_3 a1_4 a1_5
    simp only [Option.some.injEq, Prod.mk.injEq] at h
    obtain ⟨hok, rfl⟩ := h
    exact ⟨rfl, rfl, vec_Dot.call (⟨⟨a0_0, a0_1⟩, ⟨a0_2, a0_3⟩, ⟨a0_4, a0_5⟩⟩ : LV3) (⟨⟨a1_0, a1_1⟩, ⟨a1_2, a1_3⟩, ⟨a1_4, a1_5⟩⟩ : LV3) hok⟩
  · cases h⟩
def span_Positive.k (M : Prims) (a : LSpan) (k : Int → R) : R :=
  cond (M.gt a.lo 0)
    (k 1)
    (cond (M.le a.hi 0)
       (k 0)
       (k 2))
def span_Positive (M : Prims) (a : LSpan) : Int :=
  cond (M.gt a.lo 0)
    (1)
    (cond (M.le a.hi 0)
       (0)
       (2))
def span_Positive.fns : FuncId → List Value → Option (Bool × Value) := noFns
theorem span_Positive.fnsOK : PureFns Tryz.prog span_Positive.fns := noFnsOK
theorem span_Positive.ev (M : Prims)   (a : LSpan) : evP tab M span_Positive.fns noLoops 300 Tryz.f133 [a.val] = span_Positive.k M   a (fun r => some ((.int .i64 r), [])) := by kernel_rfl
theorem span_Positive.k_eq (M : Prims) (a : LSpan) (k : Int → R) : span_Positive.k M  a k = k (span_Positive M a) := by
  unfold span_Positive.k span_Positive
  exact pC rfl (pC rfl rfl)
theorem span_Positive.call (a : LSpan) : PureOK Tryz.prog 133 [a.val] (.int .i64 (span_Positive M0 a)) :=
  evP_sound (P := Tryz.prog) mixed tabOK span_Positive.fnsOK Tryz.func133 rfl (Λ := noLoops) (c := Tryz.f133.body.getD .skip) rfl (noLoopsOK _) rfl (Nat.zero_le 1) rfl rfl ((span_Positive.ev M0  a).trans (span_Positive.k_eq M0 a _))
def span_Positive.ph (c133 : LSpan → Int) : Ph := fun args => match args with
  | [.agg ⟨[.float .f64 a0_0, .float .f64 a0_1]⟩] => some (true, (.int .i64 (c133 (⟨a0_0, a0_1⟩ : LSpan))))
  | _ => none
theorem span_Positive.phOK : PhOK Tryz.prog 133 (span_Positive.ph (span_Positive M0)) := ⟨by
  intro args v h
  unfold span_Positive.ph at h
  split at h
  · rename_i a0_0 a0_1
    simp only [Option.some.injEq, Prod.mk.injEq, true_and] at h
    subst h
    exact ⟨rfl, rfl, span_Positive.call (⟨a0_0, a0_1⟩ : LSpan)⟩
  · cases h⟩
def shape_side.k (M : Prims) (c103 : LSpan → LSpan) (c133 : LSpan → Int) (d : LSpan) (k : Nat × Int → R) : R :=
  cond (((c133 d) : Int) == 1)
    (k (4607182418800017408, 1))
    (cond (((c133 (c103 d)) : Int) == 1)
       (k (13830554455654793216, 1))
       (cond (M.eq d.lo 0 && (M.eq d.hi 0 && true))
          (k (0, 0))
          (k (0, 2))))
def shape_side (M : Prims) (d : LSpan) : Nat × Int :=
  cond (((span_Positive M d) : Int) == 1)
    ((4607182418800017408, 1))
    (cond (((span_Positive M (span_Neg M d)) : Int) == 1)
       ((13830554455654793216, 1))
       (cond (M.eq d.lo 0 && (M.eq d.hi 0 && true))
          ((0, 0))
          ((0, 2))))
def shape_side.fns (c103 : LSpan → LSpan) (c133 : LSpan → Int) : FuncId → List Value → Option (Bool × Value) := ifId 103 (span_Neg.ph c103) <| ifId 133 (span_Positive.ph c133) <| noFns
theorem shape_side.fnsOK : PureFns Tryz.prog (shape_side.fns (span_Neg M0) (span_Positive M0)) := ifIdOK span_Neg.phOK <| ifIdOK span_Positive.phOK <| noFnsOK
theorem shape_side.ev (M : Prims) (c103 : LSpan → LSpan) (c133 : LSpan → Int)  (d : LSpan) : evP tab M (shape_side.fns c103 c133) noLoops 300 Tryz.f130 [d.val] = shape_side.k M c103 c133  d (fun r => some (.tuple ⟨[(.float .f64 r.1), (.int .i64 r.2)]⟩, [])) := by kernel_rfl
theorem shape_side.k_eq (M : Prims) (d : LSpan) (k : Nat × Int → R) : shape_side.k M (span_Neg M) (span_Positive M) d k = k (shape_side M d) := by
  unfold shape_side.k shape_side
  exact pC rfl (pC rfl (pC rfl rfl))
theorem shape_side.call (d : LSpan) : PureOK Tryz.prog 130 [d.val] (.tuple ⟨[(.float .f64 ((shape_side M0 d).1)), (.int .i64 ((shape_side M0 d).2))]⟩) :=
  evP_sound (P := Tryz.prog) mixed tabOK shape_side.fnsOK Tryz.func130 rfl (Λ := noLoops) (c := Tryz.f130.body.getD .skip) rfl (noLoopsOK _) rfl (Nat.zero_le 1) rfl rfl ((shape_side.ev M0 (span_Neg M0) (span_Positive M0) d).trans (shape_side.k_eq M0 d _))
def shape_side.ph (c130 : LSpan → Nat × Int) : Ph := fun args => match args with
  | [.agg ⟨[.float .f64 a0_0, .float .f64 a0_1]⟩] => some (true, .tuple ⟨[(.float .f64 ((c130 (⟨a0_0, a0_1⟩ : LSpan)).1)), (.int .i64 ((c130 (⟨a0_0, a0_1⟩ : LSpan)).2))]⟩)
  | _ => none
theorem shape_side.phOK : PhOK Tryz.prog 130 (shape_side.ph (shape_side M0)) := ⟨by
  intro args v h
  unfold shape_side.ph at h
  split at h
  · rename_i a0_0 a0_1
    simp only [Option.some.injEq, Prod.mk.injEq, true_and] at h
    subst h
    exact ⟨rfl, rfl, shape_side.call (⟨a0_0, a0_1⟩ : LSpan)⟩
  · cases h⟩
def span_Of.k (M : Prims) (c94 : LSpan) (c96 : Nat → Bool) (c96ok : Nat → Bool) (x : Nat) (k : LSpan → R) : R :=
  cond (c96ok x)
    (cond (!(c96 x))
       (k c94)
       (k (⟨(M.add x 0), (M.add x 0)⟩ : LSpan)))
    (none)
def span_Of (M : Prims) (x : Nat) : LSpan :=
  cond (!(round_Number M x))
    ((span_All M))
    ((⟨(M.add x 0), (M.add x 0)⟩ : LSpan))
def span_Of.ok (M : Prims) (x : Nat) : Bool :=
  cond (round_Number.ok M x)
    (true)
    (false)
def span_Of.fns (c94 : LSpan) (c96 : Nat → Bool) (c96ok : Nat → Bool) : FuncId → List Value → Option (Bool × Value) := ifId 94 (span_All.ph c94) <| ifId 96 (round_Number.ph c96 c96ok) <| noFns
theorem span_Of.fnsOK : PureFns Tryz.prog (span_Of.fns (span_All M0) (round_Number M0) (round_Number.ok M0)) := ifIdOK span_All.phOK <| ifIdOK round_Number.phOK <| noFnsOK
theorem span_Of.ev (M : Prims) (c94 : LSpan) (c96 : Nat → Bool) (c96ok : Nat → Bool)  (x : Nat) : evP tab M (span_Of.fns c94 c96 c96ok) noLoops 300 Tryz.f50 [(.float .f64 x)] = span_Of.k M c94 c96 c96ok  x (fun r => some (r.val, [])) := by kernel_rfl
theorem span_Of.k_eq (M : Prims) (x : Nat) (k : LSpan → R) : span_Of.ok M x = true → span_Of.k M (span_All M) (round_Number M) (round_Number.ok M) x k = k (span_Of M x) := by
  unfold span_Of.ok span_Of.k span_Of
  exact kL (fun _ => pC rfl rfl)
theorem span_Of.call (x : Nat) (h : span_Of.ok M0 x = true) : PureOK Tryz.prog 50 [(.float .f64 x)] ((span_Of M0 x).val) :=
  evP_sound (P := Tryz.prog) mixed tabOK span_Of.fnsOK Tryz.func50 rfl (Λ := noLoops) (c := Tryz.f50.body.getD .skip) rfl (noLoopsOK _) rfl (Nat.zero_le 1) rfl rfl ((span_Of.ev M0 (span_All M0) (round_Number M0) (round_Number.ok M0) x).trans (span_Of.k_eq M0 x _ h))
def span_Of.ph (c50 : Nat → LSpan) (c50ok : Nat → Bool) : Ph := fun args => match args with
  | [.float .f64 a0_] => some (c50ok a0_, (c50 a0_).val)
  | _ => none
theorem span_Of.phOK : PhOK Tryz.prog 50 (span_Of.ph (span_Of M0) (span_Of.ok M0)) := ⟨by
  intro args v h
  unfold span_Of.ph at h
  split at h
  · rename_i a0_
    simp only [Option.some.injEq, Prod.mk.injEq] at h
    obtain ⟨hok, rfl⟩ := h
    exact ⟨rfl, rfl, span_Of.call a0_ hok⟩
  · cases h⟩
def span_Less.k (M : Prims) (a : LSpan) (b : LSpan) (k : Int → R) : R :=
  cond (M.lt a.hi b.lo)
    (k 1)
    (cond (M.ge a.lo b.hi)
       (k 0)
       (k 2))
def span_Less (M : Prims) (a : LSpan) (b : LSpan) : Int :=
  cond (M.lt a.hi b.lo)
    (1)
    (cond (M.ge a.lo b.hi)
       (0)
       (2))
def span_Less.fns : FuncId → List Value → Option (Bool × Value) := noFns
theorem span_Less.fnsOK : PureFns Tryz.prog span_Less.fns := noFnsOK
theorem span_Less.ev (M : Prims)   (a : LSpan) (b : LSpan) : evP tab M span_Less.fns noLoops 300 Tryz.f167 [a.val, b.val] = span_Less.k M   a b (fun r => some ((.int .i64 r), [])) := by kernel_rfl
theorem span_Less.k_eq (M : Prims) (a : LSpan) (b : LSpan) (k : Int → R) : span_Less.k M  a b k = k (span_Less M a b) := by
  unfold span_Less.k span_Less
  exact pC rfl (pC rfl rfl)
theorem span_Less.call (a : LSpan) (b : LSpan) : PureOK Tryz.prog 167 [a.val, b.val] (.int .i64 (span_Less M0 a b)) :=
  evP_sound (P := Tryz.prog) mixed tabOK span_Less.fnsOK Tryz.func167 rfl (Λ := noLoops) (c := Tryz.f167.body.getD .skip) rfl (noLoopsOK _) rfl (Nat.zero_le 1) rfl rfl ((span_Less.ev M0  a b).trans (span_Less.k_eq M0 a b _))
def span_Less.ph (c167 : LSpan → LSpan → Int) : Ph := fun args => match args with
  | [.agg ⟨[.float .f64 a0_0, .float .f64 a0_1]⟩, .agg ⟨[.float .f64 a1_0, .float .f64 a1_1]⟩] => some (true, (.int .i64 (c167 (⟨a0_0, a0_1⟩ : LSpan) (⟨a1_0, a1_1⟩ : LSpan))))
  | _ => none
theorem span_Less.phOK : PhOK Tryz.prog 167 (span_Less.ph (span_Less M0)) := ⟨by
  intro args v h
  unfold span_Less.ph at h
  split at h
  · rename_i a0_0 a0_1 a1_0 a1_1
    simp only [Option.some.injEq, Prod.mk.injEq, true_and] at h
    subst h
    exact ⟨rfl, rfl, span_Less.call (⟨a0_0, a0_1⟩ : LSpan) (⟨a1_0, a1_1⟩ : LSpan)⟩
  · cases h⟩
def shape_opposite.k (_ : Prims) (a : Int) (k : Int → R) : R :=
  cond ((a : Int) == 1)
    (k 0)
    (cond ((a : Int) == 0)
       (k 1)
       (k a))
def shape_opposite (_ : Prims) (a : Int) : Int :=
  cond ((a : Int) == 1)
    (0)
    (cond ((a : Int) == 0)
       (1)
       (a))
def shape_opposite.fns : FuncId → List Value → Option (Bool × Value) := noFns
theorem shape_opposite.fnsOK : PureFns Tryz.prog shape_opposite.fns := noFnsOK
theorem shape_opposite.ev (M : Prims)   (a : Int) : evP tab M shape_opposite.fns noLoops 300 Tryz.f166 [(.int .i64 a)] = shape_opposite.k M   a (fun r => some ((.int .i64 r), [])) := by kernel_rfl
theorem shape_opposite.k_eq (M : Prims) (a : Int) (k : Int → R) : shape_opposite.k M  a k = k (shape_opposite M a) := by
  unfold shape_opposite.k shape_opposite
  exact pC rfl (pC rfl rfl)
theorem shape_opposite.call (a : Int) : PureOK Tryz.prog 166 [(.int .i64 a)] (.int .i64 (shape_opposite M0 a)) :=
  evP_sound (P := Tryz.prog) mixed tabOK shape_opposite.fnsOK Tryz.func166 rfl (Λ := noLoops) (c := Tryz.f166.body.getD .skip) rfl (noLoopsOK _) rfl (Nat.zero_le 1) rfl rfl ((shape_opposite.ev M0  a).trans (shape_opposite.k_eq M0 a _))
def shape_opposite.ph (c166 : Int → Int) : Ph := fun args => match args with
  | [.int .i64 a0_] => some (true, (.int .i64 (c166 a0_)))
  | _ => none
theorem shape_opposite.phOK : PhOK Tryz.prog 166 (shape_opposite.ph (shape_opposite M0)) := ⟨by
  intro args v h
  unfold shape_opposite.ph at h
  split at h
  · rename_i a0_
    simp only [Option.some.injEq, Prod.mk.injEq, true_and] at h
    subst h
    exact ⟨rfl, rfl, shape_opposite.call a0_⟩
  · cases h⟩
def shape_atLeast.k (_ : Prims) (c166 : Int → Int) (c167 : LSpan → LSpan → Int) (a : LSpan) (k : Int → R) : R :=
  k (c166 (c167 a (⟨0, 0⟩ : LSpan)))
def shape_atLeast (M : Prims) (a : LSpan) : Int :=
  (shape_opposite M (span_Less M a (⟨0, 0⟩ : LSpan)))
def shape_atLeast.fns (c166 : Int → Int) (c167 : LSpan → LSpan → Int) : FuncId → List Value → Option (Bool × Value) := ifId 166 (shape_opposite.ph c166) <| ifId 167 (span_Less.ph c167) <| noFns
theorem shape_atLeast.fnsOK : PureFns Tryz.prog (shape_atLeast.fns (shape_opposite M0) (span_Less M0)) := ifIdOK shape_opposite.phOK <| ifIdOK span_Less.phOK <| noFnsOK
theorem shape_atLeast.ev (M : Prims) (c166 : Int → Int) (c167 : LSpan → LSpan → Int)  (a : LSpan) : evP tab M (shape_atLeast.fns c166 c167) noLoops 300 Tryz.f132 [a.val] = shape_atLeast.k M c166 c167  a (fun r => some ((.int .i64 r), [])) := by kernel_rfl
theorem shape_atLeast.k_eq (M : Prims) (a : LSpan) (k : Int → R) : shape_atLeast.k M (shape_opposite M) (span_Less M) a k = k (shape_atLeast M a) := by
  unfold shape_atLeast.k shape_atLeast
  exact rfl
theorem shape_atLeast.call (a : LSpan) : PureOK Tryz.prog 132 [a.val] (.int .i64 (shape_atLeast M0 a)) :=
  evP_sound (P := Tryz.prog) mixed tabOK shape_atLeast.fnsOK Tryz.func132 rfl (Λ := noLoops) (c := Tryz.f132.body.getD .skip) rfl (noLoopsOK _) rfl (Nat.zero_le 1) rfl rfl ((shape_atLeast.ev M0 (shape_opposite M0) (span_Less M0) a).trans (shape_atLeast.k_eq M0 a _))
def shape_atLeast.ph (c132 : LSpan → Int) : Ph := fun args => match args with
  | [.agg ⟨[.float .f64 a0_0, .float .f64 a0_1]⟩] => some (true, (.int .i64 (c132 (⟨a0_0, a0_1⟩ : LSpan))))
  | _ => none
theorem shape_atLeast.phOK : PhOK Tryz.prog 132 (shape_atLeast.ph (shape_atLeast M0)) := ⟨by
  intro args v h
  unfold shape_atLeast.ph at h
  split at h
  · rename_i a0_0 a0_1
    simp only [Option.some.injEq, Prod.mk.injEq, true_and] at h
    subst h
    exact ⟨rfl, rfl, shape_atLeast.call (⟨a0_0, a0_1⟩ : LSpan)⟩
  · cases h⟩
def bits_LeadingZeros64.k (_ : Prims) (c173 : Int → Int) (c173ok : Int → Bool) (x : Int) (k : Int → R) : R :=
  cond (c173ok x)
    (k (IntKind.i64.wrap (64 - (c173 x))))
    (none)
def bits_LeadingZeros64 (M : Prims) (x : Int) : Int :=
  (IntKind.i64.wrap (64 - (bits_Len64 M x)))
def bits_LeadingZeros64.ok (M : Prims) (x : Int) : Bool :=
  cond (bits_Len64.ok M x)
    (true)
    (false)
def bits_LeadingZeros64.fns (c173 : Int → Int) (c173ok : Int → Bool) : FuncId → List Value → Option (Bool × Value) := ifId 173 (bits_Len64.ph c173 c173ok) <| noFns
theorem bits_LeadingZeros64.fnsOK : PureFns Tryz.prog (bits_LeadingZeros64.fns (bits_Len64 M0) (bits_Len64.ok M0)) := ifIdOK bits_Len64.phOK <| noFnsOK
theorem bits_LeadingZeros64.ev (M : Prims) (c173 : Int → Int) (c173ok : Int → Bool)  (x : Int) : evP tab M (bits_LeadingZeros64.fns c173 c173ok) noLoops 300 Tryz.f177 [(.int .u64 x)] = bits_LeadingZeros64.k M c173 c173ok  x (fun r => some ((.int .i64 r), [])) := by kernel_rfl
theorem bits_LeadingZeros64.k_eq (M : Prims) (x : Int) (k : Int → R) : bits_LeadingZeros64.ok M x = true → bits_LeadingZeros64.k M (bits_Len64 M) (bits_Len64.ok M) x k = k (bits_LeadingZeros64 M x) := by
  unfold bits_LeadingZeros64.ok bits_LeadingZeros64.k bits_LeadingZeros64
  exact kL (fun _ => rfl)
theorem bits_LeadingZeros64.call (x : Int) (h : bits_LeadingZeros64.ok M0 x = true) : PureOK Tryz.prog 177 [(.int .u64 x)] (.int .i64 (bits_LeadingZeros64 M0 x)) :=
  evP_sound (P := Tryz.prog) mixed tabOK bits_LeadingZeros64.fnsOK Tryz.func177 rfl (Λ := noLoops) (c := Tryz.f177.body.getD .skip) rfl (noLoopsOK _) rfl (Nat.zero_le 1) rfl rfl ((bits_LeadingZeros64.ev M0 (bits_Len64 M0) (bits_Len64.ok M0) x).trans (bits_LeadingZeros64.k_eq M0 x _ h))
def bits_LeadingZeros64.ph (c177 : Int → Int) (c177ok : Int → Bool) : Ph := fun args => match args with
  | [.int .u64 a0_] => some (c177ok a0_, (.int .i64 (c177 a0_)))
  | _ => none
theorem bits_LeadingZeros64.phOK : PhOK Tryz.prog 177 (bits_LeadingZeros64.ph (bits_LeadingZeros64 M0) (bits_LeadingZeros64.ok M0)) := ⟨by
  intro args v h
  unfold bits_LeadingZeros64.ph at h
  split at h
  · rename_i a0_
    simp only [Option.some.injEq, Prod.mk.injEq] at h
    obtain ⟨hok, rfl⟩ := h
    exact ⟨rfl, rfl, bits_LeadingZeros64.call a0_ hok⟩
  · cases h⟩
end Go.Lan

namespace Go.Lan
open Go.Proofs
def bits_Div64.L17.k {ρ : Type} (_ : Prims) (_ : Int → Int) (_ : Int → Bool) (s : Int × Int × Int × Int × Int × Int × Int × Int × Int) (kn kx : (Int × Int × Int × Int × Int × Int × Int × Int × Int) → Option ρ) : Option ρ :=
  cond (decide (s.2.2.2.2.2.2.2.1 ≥ 4294967296))
    (let x22 := IntKind.u64.wrap (s.2.2.2.2.2.2.2.1 - 1)
     let x23 := IntKind.u64.wrap (s.2.2.2.2.2.2.2.2 + s.2.2.1)
     cond (decide (x23 ≥ 4294967296))
       (kx (s.1, s.2.1, s.2.2.1, s.2.2.2.1, s.2.2.2.2.1, s.2.2.2.2.2.1, s.2.2.2.2.2.2.1, x22, x23))
       (kn (s.1, s.2.1, s.2.2.1, s.2.2.2.1, s.2.2.2.2.1, s.2.2.2.2.2.1, s.2.2.2.2.2.2.1, x22, x23)))
    (cond (decide ((IntKind.u64.wrap (s.2.2.2.2.2.2.2.1 * s.2.2.2.1)) > (IntKind.u64.wrap ((IntKind.u64.wrap (4294967296 * s.2.2.2.2.2.2.2.2)) + s.2.2.2.2.2.1))))
       (let x29 := IntKind.u64.wrap (s.2.2.2.2.2.2.2.1 - 1)
        let x30 := IntKind.u64.wrap (s.2.2.2.2.2.2.2.2 + s.2.2.1)
        cond (decide (x30 ≥ 4294967296))
          (kx (s.1, s.2.1, s.2.2.1, s.2.2.2.1, s.2.2.2.2.1, s.2.2.2.2.2.1, s.2.2.2.2.2.2.1, x29, x30))
          (kn (s.1, s.2.1, s.2.2.1, s.2.2.2.1, s.2.2.2.2.1, s.2.2.2.2.2.1, s.2.2.2.2.2.2.1, x29, x30)))
       (kx (s.1, s.2.1, s.2.2.1, s.2.2.2.1, s.2.2.2.2.1, s.2.2.2.2.2.1, s.2.2.2.2.2.2.1, s.2.2.2.2.2.2.2.1, s.2.2.2.2.2.2.2.2)))
def bits_Div64.L17.step (M : Prims) (s : Int × Int × Int × Int × Int × Int × Int × Int × Int) : Option (Bool × (Int × Int × Int × Int × Int × Int × Int × Int × Int)) := bits_Div64.L17.k M (bits_LeadingZeros64 M) (bits_LeadingZeros64.ok M) s (fun t => some (true, t)) (fun t => some (false, t))
def bits_Div64.L17 (M : Prims) (a0 : Int) (a1 : Int) (a2 : Int) (a3 : Int) (a4 : Int) (a5 : Int) (a6 : Int) (a7 : Int) (a8 : Int) : Int × Int × Int × Int × Int × Int × Int × Int × Int := (runL (bits_Div64.L17.step M) (4) (a0, a1, a2, a3, a4, a5, a6, a7, a8)).getD (a0, a1, a2, a3, a4, a5, a6, a7, a8)
def bits_Div64.L17.ok (M : Prims) (a0 : Int) (a1 : Int) (a2 : Int) (a3 : Int) (a4 : Int) (a5 : Int) (a6 : Int) (a7 : Int) (a8 : Int) : Bool := (runL (bits_Div64.L17.step M) (4) (a0, a1, a2, a3, a4, a5, a6, a7, a8)).isSome
def bits_Div64.L17.vals (s : Int × Int × Int × Int × Int × Int × Int × Int × Int) : List (Nat × Value) := [(2, .int .u64 s.1), (8, .int .u64 s.2.1), (9, .int .u64 s.2.2.1), (10, .int .u64 s.2.2.2.1), (11, .int .u64 s.2.2.2.2.1), (13, .int .u64 s.2.2.2.2.2.1), (14, .int .u64 s.2.2.2.2.2.2.1), (15, .int .u64 s.2.2.2.2.2.2.2.1), (16, .int .u64 s.2.2.2.2.2.2.2.2)]
def bits_Div64.L17.asgL : List Nat := [67, 68, 69, 70, 71, 72, 73, 74, 75, 76, 77, 78, 79, 80, 15, 81, 82, 83, 16, 84, 85]
noncomputable def bits_Div64.L17.body : Code := (nth (loopsOf (Tryz.f157.body.getD .skip)) 0).getD .skip
def bits_Div64.L24.k {ρ : Type} (_ : Prims) (_ : Int → Int) (_ : Int → Bool) (s : Int × Int × Int × Int × Int × Int × Int × Int × Int) (kn kx : (Int × Int × Int × Int × Int × Int × Int × Int × Int) → Option ρ) : Option ρ :=
  cond (decide (s.2.2.2.2.2.2.2.2 ≥ 4294967296))
    (let x41 := IntKind.u64.wrap (s.2.2.2.2.2.2.2.2 - 1)
     let x42 := IntKind.u64.wrap (s.2.2.2.2.2.2.1 + s.2.2.1)
     cond (decide (x42 ≥ 4294967296))
       (kx (s.1, s.2.1, s.2.2.1, s.2.2.2.1, s.2.2.2.2.1, s.2.2.2.2.2.1, x42, s.2.2.2.2.2.2.2.1, x41))
       (kn (s.1, s.2.1, s.2.2.1, s.2.2.2.1, s.2.2.2.2.1, s.2.2.2.2.2.1, x42, s.2.2.2.2.2.2.2.1, x41)))
    (cond (decide ((IntKind.u64.wrap (s.2.2.2.2.2.2.2.2 * s.2.2.2.1)) > (IntKind.u64.wrap ((IntKind.u64.wrap (4294967296 * s.2.2.2.2.2.2.1)) + s.2.2.2.2.1))))
       (let x48 := IntKind.u64.wrap (s.2.2.2.2.2.2.2.2 - 1)
        let x49 := IntKind.u64.wrap (s.2.2.2.2.2.2.1 + s.2.2.1)
        cond (decide (x49 ≥ 4294967296))
          (kx (s.1, s.2.1, s.2.2.1, s.2.2.2.1, s.2.2.2.2.1, s.2.2.2.2.2.1, x49, s.2.2.2.2.2.2.2.1, x48))
          (kn (s.1, s.2.1, s.2.2.1, s.2.2.2.1, s.2.2.2.2.1, s.2.2.2.2.2.1, x49, s.2.2.2.2.2.2.2.1, x48)))
       (kx (s.1, s.2.1, s.2.2.1, s.2.2.2.1, s.2.2.2.2.1, s.2.2.2.2.2.1, s.2.2.2.2.2.2.1, s.2.2.2.2.2.2.2.1, s.2.2.2.2.2.2.2.2)))
def bits_Div64.L24.step (M : Prims) (s : Int × Int × Int × Int × Int × Int × Int × Int × Int) : Option (Bool × (Int × Int × Int × Int × Int × Int × Int × Int × Int)) := bits_Div64.L24.k M (bits_LeadingZeros64 M) (bits_LeadingZeros64.ok M) s (fun t => some (true, t)) (fun t => some (false, t))
def bits_Div64.L24 (M : Prims) (a0 : Int) (a1 : Int) (a2 : Int) (a3 : Int) (a4 : Int) (a5 : Int) (a6 : Int) (a7 : Int) (a8 : Int) : Int × Int × Int × Int × Int × Int × Int × Int × Int := (runL (bits_Div64.L24.step M) (4) (a0, a1, a2, a3, a4, a5, a6, a7, a8)).getD (a0, a1, a2, a3, a4, a5, a6, a7, a8)
def bits_Div64.L24.ok (M : Prims) (a0 : Int) (a1 : Int) (a2 : Int) (a3 : Int) (a4 : Int) (a5 : Int) (a6 : Int) (a7 : Int) (a8 : Int) : Bool := (runL (bits_Div64.L24.step M) (4) (a0, a1, a2, a3, a4, a5, a6, a7, a8)).isSome
def bits_Div64.L24.vals (s : Int × Int × Int × Int × Int × Int × Int × Int × Int) : List (Nat × Value) := [(2, .int .u64 s.1), (8, .int .u64 s.2.1), (9, .int .u64 s.2.2.1), (10, .int .u64 s.2.2.2.1), (14, .int .u64 s.2.2.2.2.1), (15, .int .u64 s.2.2.2.2.2.1), (16, .int .u64 s.2.2.2.2.2.2.1), (17, .int .u64 s.2.2.2.2.2.2.2.1), (18, .int .u64 s.2.2.2.2.2.2.2.2)]
def bits_Div64.L24.asgL : List Nat := [102, 103, 104, 105, 106, 107, 108, 109, 110, 111, 112, 113, 114, 115, 18, 116, 117, 118, 16, 119, 120]
noncomputable def bits_Div64.L24.body : Code := (nth (loopsOf (Tryz.f157.body.getD .skip)) 1).getD .skip
def bits_Div64.k (M : Prims) (c177 : Int → Int) (c177ok : Int → Bool) (l17 : Int → Int → Int → Int → Int → Int → Int → Int → Int → Int × Int × Int × Int × Int × Int × Int × Int × Int) (l17ok : Int → Int → Int → Int → Int → Int → Int → Int → Int → Bool) (l24 : Int → Int → Int → Int → Int → Int → Int → Int → Int → Int × Int × Int × Int × Int × Int × Int × Int × Int) (l24ok : Int → Int → Int → Int → Int → Int → Int → Int → Int → Bool) (hi : Int) (lo : Int) (y : Int) (k : Int × Int → R) : R :=
  cond ((y : Int) == 0)
    (none)
    (cond (decide (y ≤ hi))
       (none)
       (cond ((hi : Int) == 0)
          (cond (!decide (y = 0))
             (cond (!decide (y = 0))
                (k ((IntKind.u64.wrap (Int.tdiv lo y)), (Int.tmod lo y)))
                (none))
             (none))
          (cond (c177ok y)
             (let x7 := IntKind.u64.wrap (c177 y)
              let x8 := shlV .u64 y x7
              cond (decide (0 ≤ x7))
                (let x9 := shrV .u64 x8 32
                 let x10 := M.and .u64 x8 4294967295
                 cond (decide (0 ≤ x7))
                   (let x12 := IntKind.u64.wrap (64 - x7)
                    cond (decide (0 ≤ x12))
                      (let x14 := M.or .u64 (shlV .u64 hi x7) (shrV .u64 lo x12)
                       let x15 := shlV .u64 lo x7
                       cond (decide (0 ≤ x7))
                         (let x16 := shrV .u64 x15 32
                          let x17 := M.and .u64 x15 4294967295
                          let x18 := IntKind.u64.wrap (Int.tdiv x14 x9)
                          cond (!decide (x9 = 0))
                            (let x20 := IntKind.u64.wrap (x14 - (IntKind.u64.wrap (x18 * x9)))
                             let x32 := l17 x8 x7 x9 x10 x14 x16 x17 x18 x20
                             cond (l17ok x8 x7 x9 x10 x14 x16 x17 x18 x20)
                               (let x36 := IntKind.u64.wrap ((IntKind.u64.wrap ((IntKind.u64.wrap (x32.2.2.2.2.1 * 4294967296)) + x32.2.2.2.2.2.1)) - (IntKind.u64.wrap (x32.2.2.2.2.2.2.2.1 * x32.1)))
                                let x37 := IntKind.u64.wrap (Int.tdiv x36 x32.2.2.1)
                                cond (!decide (x32.2.2.1 = 0))
                                  (let x39 := IntKind.u64.wrap (x36 - (IntKind.u64.wrap (x37 * x32.2.2.1)))
                                   let x51 := l24 x32.1 x32.2.1 x32.2.2.1 x32.2.2.2.1 x32.2.2.2.2.2.2.1 x32.2.2.2.2.2.2.2.1 x39 x36 x37
                                   cond (l24ok x32.1 x32.2.1 x32.2.2.1 x32.2.2.2.1 x32.2.2.2.2.2.2.1 x32.2.2.2.2.2.2.2.1 x39 x36 x37)
                                     (cond (decide (0 ≤ x51.2.1))
                                        (k ((IntKind.u64.wrap ((IntKind.u64.wrap (x51.2.2.2.2.2.1 * 4294967296)) + x51.2.2.2.2.2.2.2.2)), (shrV .u64 (IntKind.u64.wrap ((IntKind.u64.wrap ((IntKind.u64.wrap (x51.2.2.2.2.2.2.2.1 * 4294967296)) + x51.2.2.2.2.1)) - (IntKind.u64.wrap (x51.2.2.2.2.2.2.2.2 * x51.1)))) x51.2.1)))
                                        (none))
                                     (none))
                                  (none))
                               (none))
                            (none))
                         (none))
                      (none))
                   (none))
                (none))
             (none))))
def bits_Div64 (M : Prims) (hi : Int) (lo : Int) (y : Int) : Int × Int :=
  cond ((hi : Int) == 0)
    (((IntKind.u64.wrap (Int.tdiv lo y)), (Int.tmod lo y)))
    (let x7 := IntKind.u64.wrap (bits_LeadingZeros64 M y)
     let x8 := shlV .u64 y x7
     let x9 := shrV .u64 x8 32
     let x14 := M.or .u64 (shlV .u64 hi x7) (shrV .u64 lo (IntKind.u64.wrap (64 - x7)))
     let x15 := shlV .u64 lo x7
     let x18 := IntKind.u64.wrap (Int.tdiv x14 x9)
     let x32 := bits_Div64.L17 M x8 x7 x9 (M.and .u64 x8 4294967295) x14 (shrV .u64 x15 32) (M.and .u64 x15 4294967295) x18 (IntKind.u64.wrap (x14 - (IntKind.u64.wrap (x18 * x9))))
     let x36 := IntKind.u64.wrap ((IntKind.u64.wrap ((IntKind.u64.wrap (x32.2.2.2.2.1 * 4294967296)) + x32.2.2.2.2.2.1)) - (IntKind.u64.wrap (x32.2.2.2.2.2.2.2.1 * x32.1)))
     let x37 := IntKind.u64.wrap (Int.tdiv x36 x32.2.2.1)
     let x51 := bits_Div64.L24 M x32.1 x32.2.1 x32.2.2.1 x32.2.2.2.1 x32.2.2.2.2.2.2.1 x32.2.2.2.2.2.2.2.1 (IntKind.u64.wrap (x36 - (IntKind.u64.wrap (x37 * x32.2.2.1)))) x36 x37
     ((IntKind.u64.wrap ((IntKind.u64.wrap (x51.2.2.2.2.2.1 * 4294967296)) + x51.2.2.2.2.2.2.2.2)), (shrV .u64 (IntKind.u64.wrap ((IntKind.u64.wrap ((IntKind.u64.wrap (x51.2.2.2.2.2.2.2.1 * 4294967296)) + x51.2.2.2.2.1)) - (IntKind.u64.wrap (x51.2.2.2.2.2.2.2.2 * x51.1)))) x51.2.1)))
def bits_Div64.ok (M : Prims) (hi : Int) (lo : Int) (y : Int) : Bool :=
  cond ((y : Int) == 0)
    (false)
    (cond (decide (y ≤ hi))
       (false)
       (cond ((hi : Int) == 0)
          (cond (!decide (y = 0))
             (cond (!decide (y = 0))
                (true)
                (false))
             (false))
          (cond (bits_LeadingZeros64.ok M y)
             (let x7 := IntKind.u64.wrap (bits_LeadingZeros64 M y)
              let x8 := shlV .u64 y x7
              cond (decide (0 ≤ x7))
                (let x9 := shrV .u64 x8 32
                 let x10 := M.and .u64 x8 4294967295
                 cond (decide (0 ≤ x7))
                   (let x12 := IntKind.u64.wrap (64 - x7)
                    cond (decide (0 ≤ x12))
                      (let x14 := M.or .u64 (shlV .u64 hi x7) (shrV .u64 lo x12)
                       let x15 := shlV .u64 lo x7
                       cond (decide (0 ≤ x7))
                         (let x16 := shrV .u64 x15 32
                          let x17 := M.and .u64 x15 4294967295
                          let x18 := IntKind.u64.wrap (Int.tdiv x14 x9)
                          cond (!decide (x9 = 0))
                            (let x20 := IntKind.u64.wrap (x14 - (IntKind.u64.wrap (x18 * x9)))
                             let x32 := bits_Div64.L17 M x8 x7 x9 x10 x14 x16 x17 x18 x20
                             cond (bits_Div64.L17.ok M x8 x7 x9 x10 x14 x16 x17 x18 x20)
                               (let x36 := IntKind.u64.wrap ((IntKind.u64.wrap ((IntKind.u64.wrap (x32.2.2.2.2.1 * 4294967296)) + x32.2.2.2.2.2.1)) - (IntKind.u64.wrap (x32.2.2.2.2.2.2.2.1 * x32.1)))
                                let x37 := IntKind.u64.wrap (Int.tdiv x36 x32.2.2.1)
                                cond (!decide (x32.2.2.1 = 0))
                                  (let x39 := IntKind.u64.wrap (x36 - (IntKind.u64.wrap (x37 * x32.2.2.1)))
                                   cond (bits_Div64.L24.ok M x32.1 x32.2.1 x32.2.2.1 x32.2.2.2.1 x32.2.2.2.2.2.2.1 x32.2.2.2.2.2.2.2.1 x39 x36 x37)
                                     (cond (decide (0 ≤ (bits_Div64.L24 M x32.1 x32.2.1 x32.2.2.1 x32.2.2.2.1 x32.2.2.2.2.2.2.1 x32.2.2.2.2.2.2.2.1 x39 x36 x37).2.1))
                                        (true)
                                        (false))
                                     (false))
                                  (false))
                               (false))
                            (false))
                         (false))
                      (false))
                   (false))
                (false))
             (false))))
def bits_Div64.fns (c177 : Int → Int) (c177ok : Int → Bool) : FuncId → List Value → Option (Bool × Value) := ifId 177 (bits_LeadingZeros64.ph c177 c177ok) <| noFns
def bits_Div64.L17.at (l : Int → Int → Int → Int → Int → Int → Int → Int → Int → Int × Int × Int × Int × Int × Int × Int × Int × Int) (lok : Int → Int → Int → Int → Int → Int → Int → Int → Int → Bool) (e : Env) (h : Hp) : Option (Bool × Nat × Env × Hp) :=
  match keysLt 135 e, getE e 2, getE e 8, getE e 9, getE e 10, getE e 11, getE e 13, getE e 14, getE e 15, getE e 16 with
  | true, .int .u64 a0, .int .u64 a1, .int .u64 a2, .int .u64 a3, .int .u64 a4, .int .u64 a5, .int .u64 a6, .int .u64 a7, .int .u64 a8 => some (lok a0 a1 a2 a3 a4 a5 a6 a7 a8, 0, mkE (bits_Div64.L17.vals (l a0 a1 a2 a3 a4 a5 a6 a7 a8)) bits_Div64.L17.asgL (getE e) (upTo 135 0), h)
  | _, _, _, _, _, _, _, _, _, _ => none
def bits_Div64.L24.at (l : Int → Int → Int → Int → Int → Int → Int → Int → Int → Int × Int × Int × Int × Int × Int × Int × Int × Int) (lok : Int → Int → Int → Int → Int → Int → Int → Int → Int → Bool) (e : Env) (h : Hp) : Option (Bool × Nat × Env × Hp) :=
  match keysLt 135 e, getE e 2, getE e 8, getE e 9, getE e 10, getE e 14, getE e 15, getE e 16, getE e 17, getE e 18 with
  | true, .int .u64 a0, .int .u64 a1, .int .u64 a2, .int .u64 a3, .int .u64 a4, .int .u64 a5, .int .u64 a6, .int .u64 a7, .int .u64 a8 => some (lok a0 a1 a2 a3 a4 a5 a6 a7 a8, 2, mkE (bits_Div64.L24.vals (l a0 a1 a2 a3 a4 a5 a6 a7 a8)) bits_Div64.L24.asgL (getE e) (upTo 135 0), h)
  | _, _, _, _, _, _, _, _, _, _ => none
def bits_Div64.lps (l17 : Int → Int → Int → Int → Int → Int → Int → Int → Int → Int × Int × Int × Int × Int × Int × Int × Int × Int) (l17ok : Int → Int → Int → Int → Int → Int → Int → Int → Int → Bool) (l24 : Int → Int → Int → Int → Int → Int → Int → Int → Int → Int × Int × Int × Int × Int × Int × Int × Int × Int) (l24ok : Int → Int → Int → Int → Int → Int → Int → Int → Int → Bool) : Loops := fun key e h => match key with
  | 17 => bits_Div64.L17.at l17 l17ok e h
  | 24 => bits_Div64.L24.at l24 l24ok e h
  | _ => none
theorem bits_Div64.L17.ev (M : Prims) (c177 : Int → Int) (c177ok : Int → Bool) (l17 : Int → Int → Int → Int → Int → Int → Int → Int → Int → Int × Int × Int × Int × Int × Int × Int × Int × Int) (l17ok : Int → Int → Int → Int → Int → Int → Int → Int → Int → Bool) (l24 : Int → Int → Int → Int → Int → Int → Int → Int → Int → Int × Int × Int × Int × Int × Int × Int × Int × Int) (l24ok : Int → Int → Int → Int → Int → Int → Int → Int → Int → Bool) (b : Nat → Value) (h : Hp) (s : Int × Int × Int × Int × Int × Int × Int × Int × Int) : ev tab M (pureFns (bits_Div64.fns c177 c177ok)) (bits_Div64.lps l17 l17ok l24 l24ok) true 135 60 bits_Div64.L17.body (mkE (bits_Div64.L17.vals s) bits_Div64.L17.asgL b (upTo 135 0)) h (fun o e h => some (o, getEs e [2, 8, 9, 10, 11, 13, 14, 15, 16], h)) = bits_Div64.L17.k M c177 c177ok s (fun t => some (.norm, sndL (bits_Div64.L17.vals t), h)) (fun t => some (.exit 0, sndL (bits_Div64.L17.vals t), h)) := by kernel_rfl
theorem bits_Div64.L17.nat {ρ : Type} (M : Prims) (s s2 : Int × Int × Int × Int × Int × Int × Int × Int × Int) (g : Bool) (kn kx : (Int × Int × Int × Int × Int × Int × Int × Int × Int) → Option ρ) : bits_Div64.L17.step M s = some (g, s2) → bits_Div64.L17.k M (bits_LeadingZeros64 M) (bits_LeadingZeros64.ok M) s kn kx = cond g (kn s2) (kx s2) := by
  unfold bits_Div64.L17.step bits_Div64.L17.k
  exact nC (nC nX nN) (nC (nC nX nN) nX)
theorem bits_Div64.L24.ev (M : Prims) (c177 : Int → Int) (c177ok : Int → Bool) (l17 : Int → Int → Int → Int → Int → Int → Int → Int → Int → Int × Int × Int × Int × Int × Int × Int × Int × Int) (l17ok : Int → Int → Int → Int → Int → Int → Int → Int → Int → Bool) (l24 : Int → Int → Int → Int → Int → Int → Int → Int → Int → Int × Int × Int × Int × Int × Int × Int × Int × Int) (l24ok : Int → Int → Int → Int → Int → Int → Int → Int → Int → Bool) (b : Nat → Value) (h : Hp) (s : Int × Int × Int × Int × Int × Int × Int × Int × Int) : ev tab M (pureFns (bits_Div64.fns c177 c177ok)) (bits_Div64.lps l17 l17ok l24 l24ok) true 135 60 bits_Div64.L24.body (mkE (bits_Div64.L24.vals s) bits_Div64.L24.asgL b (upTo 135 0)) h (fun o e h => some (o, getEs e [2, 8, 9, 10, 14, 15, 16, 17, 18], h)) = bits_Div64.L24.k M c177 c177ok s (fun t => some (.norm, sndL (bits_Div64.L24.vals t), h)) (fun t => some (.exit 2, sndL (bits_Div64.L24.vals t), h)) := by kernel_rfl
theorem bits_Div64.L24.nat {ρ : Type} (M : Prims) (s s2 : Int × Int × Int × Int × Int × Int × Int × Int × Int) (g : Bool) (kn kx : (Int × Int × Int × Int × Int × Int × Int × Int × Int) → Option ρ) : bits_Div64.L24.step M s = some (g, s2) → bits_Div64.L24.k M (bits_LeadingZeros64 M) (bits_LeadingZeros64.ok M) s kn kx = cond g (kn s2) (kx s2) := by
  unfold bits_Div64.L24.step bits_Div64.L24.k
  exact nC (nC nX nN) (nC (nC nX nN) nX)
theorem bits_Div64.fnsOK : PureFns Tryz.prog (bits_Div64.fns (bits_LeadingZeros64 M0) (bits_LeadingZeros64.ok M0)) := ifIdOK bits_LeadingZeros64.phOK <| noFnsOK
theorem bits_Div64.L17.isOK : LoopOK Tryz.prog 135 (bits_Div64.lps (bits_Div64.L17 M0) (bits_Div64.L17.ok M0) (bits_Div64.L24 M0) (bits_Div64.L24.ok M0)) bits_Div64.L17.body := by
  intro e h x e2 h2 hL0
  rw [show keyOf bits_Div64.L17.body = 17 from by kernel_rfl] at hL0
  have hL : bits_Div64.L17.at (bits_Div64.L17 M0) (bits_Div64.L17.ok M0) e h = some (true, x, e2, h2) := hL0
  unfold bits_Div64.L17.at at hL
  split at hL
  · rename_i a0 a1 a2 a3 a4 a5 a6 a7 a8 hk e0 e1 e2 e3 e4 e5 e6 e7 e8
    simp only [Option.some.injEq, Prod.mk.injEq] at hL
    obtain ⟨hok, rfl, rfl, rfl⟩ := hL
    obtain ⟨s2, hs⟩ := Option.isSome_iff_exists.1 hok
    unfold bits_Div64.L17
    rw [hs]
    refine loop_rounds (P := Tryz.prog) (T := tab) (Φ := pureFns (bits_Div64.fns (bits_LeadingZeros64 M0) (bits_LeadingZeros64.ok M0))) (pc := true) (Λ := (bits_Div64.lps (bits_Div64.L17 M0) (bits_Div64.L17.ok M0) (bits_Div64.L24 M0) (bits_Div64.L24.ok M0))) (setting_pure (P := Tryz.prog) mixed tabOK bits_Div64.fnsOK) (c := bits_Div64.L17.body) (by rw [show loopsOf bits_Div64.L17.body = [] from by kernel_rfl]; exact trivial) (by rw [show loopsOf bits_Div64.L17.body = [] from by kernel_rfl]; exact trivial) (bits_Div64.L17.step M0) bits_Div64.L17.vals [2, 8, 9, 10, 11, 13, 14, 15, 16] (fun _ => rfl) 0 60 (asg := bits_Div64.L17.asgL) (by kernel_rfl) ?_ (by kernel_rfl) _ _ _ e h hs hk ?_
    · intro b h s s2 g hst
      refine (bits_Div64.L17.ev M0 (bits_LeadingZeros64 M0) (bits_LeadingZeros64.ok M0) (bits_Div64.L17 M0) (bits_Div64.L17.ok M0) (bits_Div64.L24 M0) (bits_Div64.L24.ok M0) b h s).trans ((bits_Div64.L17.nat M0 s s2 g _ _ hst).trans ?_)
      cases g <;> rfl
    · intro p hp
      simp only [bits_Div64.L17.vals, List.mem_cons, List.not_mem_nil, or_false] at hp
      rcases hp with rfl | rfl | rfl | rfl | rfl | rfl | rfl | rfl | rfl <;> assumption
  · cases hL
theorem bits_Div64.L24.isOK : LoopOK Tryz.prog 135 (bits_Div64.lps (bits_Div64.L17 M0) (bits_Div64.L17.ok M0) (bits_Div64.L24 M0) (bits_Div64.L24.ok M0)) bits_Div64.L24.body := by
  intro e h x e2 h2 hL0
  rw [show keyOf bits_Div64.L24.body = 24 from by kernel_rfl] at hL0
  have hL : bits_Div64.L24.at (bits_Div64.L24 M0) (bits_Div64.L24.ok M0) e h = some (true, x, e2, h2) := hL0
  unfold bits_Div64.L24.at at hL
  split at hL
  · rename_i a0 a1 a2 a3 a4 a5 a6 a7 a8 hk e0 e1 e2 e3 e4 e5 e6 e7 e8
    simp only [Option.some.injEq, Prod.mk.injEq] at hL
    obtain ⟨hok, rfl, rfl, rfl⟩ := hL
    obtain ⟨s2, hs⟩ := Option.isSome_iff_exists.1 hok
    unfold bits_Div64.L24
    rw [hs]
    refine loop_rounds (P := Tryz.prog) (T := tab) (Φ := pureFns (bits_Div64.fns (bits_LeadingZeros64 M0) (bits_LeadingZeros64.ok M0))) (pc := true) (Λ := (bits_Div64.lps (bits_Div64.L17 M0) (bits_Div64.L17.ok M0) (bits_Div64.L24 M0) (bits_Div64.L24.ok M0))) (setting_pure (P := Tryz.prog) mixed tabOK bits_Div64.fnsOK) (c := bits_Div64.L24.body) (by rw [show loopsOf bits_Div64.L24.body = [] from by kernel_rfl]; exact trivial) (by rw [show loopsOf bits_Div64.L24.body = [] from by kernel_rfl]; exact trivial) (bits_Div64.L24.step M0) bits_Div64.L24.vals [2, 8, 9, 10, 14, 15, 16, 17, 18] (fun _ => rfl) 2 60 (asg := bits_Div64.L24.asgL) (by kernel_rfl) ?_ (by kernel_rfl) _ _ _ e h hs hk ?_
    · intro b h s s2 g hst
      refine (bits_Div64.L24.ev M0 (bits_LeadingZeros64 M0) (bits_LeadingZeros64.ok M0) (bits_Div64.L17 M0) (bits_Div64.L17.ok M0) (bits_Div64.L24 M0) (bits_Div64.L24.ok M0) b h s).trans ((bits_Div64.L24.nat M0 s s2 g _ _ hst).trans ?_)
      cases g <;> rfl
    · intro p hp
      simp only [bits_Div64.L24.vals, List.mem_cons, List.not_mem_nil, or_false] at hp
      rcases hp with rfl | rfl | rfl | rfl | rfl | rfl | rfl | rfl | rfl <;> assumption
  · cases hL
theorem bits_Div64.lpsOK : LoopsOK Tryz.prog 135 (bits_Div64.lps (bits_Div64.L17 M0) (bits_Div64.L17.ok M0) (bits_Div64.L24 M0) (bits_Div64.L24.ok M0)) (loopsOf (Tryz.f157.body.getD .skip)) := by
  rw [show loopsOf (Tryz.f157.body.getD .skip) = [bits_Div64.L17.body, bits_Div64.L24.body] from by kernel_rfl]
  exact ⟨bits_Div64.L17.isOK, bits_Div64.L24.isOK, trivial⟩
theorem bits_Div64.ev (M : Prims) (c177 : Int → Int) (c177ok : Int → Bool) (l17 : Int → Int → Int → Int → Int → Int → Int → Int → Int → Int × Int × Int × Int × Int × Int × Int × Int × Int) (l17ok : Int → Int → Int → Int → Int → Int → Int → Int → Int → Bool) (l24 : Int → Int → Int → Int → Int → Int → Int → Int → Int → Int × Int × Int × Int × Int × Int × Int × Int × Int) (l24ok : Int → Int → Int → Int → Int → Int → Int → Int → Int → Bool) (hi : Int) (lo : Int) (y : Int) : evP tab M (bits_Div64.fns c177 c177ok) (bits_Div64.lps l17 l17ok l24 l24ok) 300 Tryz.f157 [(.int .u64 hi), (.int .u64 lo), (.int .u64 y)] = bits_Div64.k M c177 c177ok l17 l17ok l24 l24ok hi lo y (fun r => some (.tuple ⟨[(.int .u64 r.1), (.int .u64 r.2)]⟩, [])) := by kernel_rfl
theorem bits_Div64.k_eq (M : Prims) (hi : Int) (lo : Int) (y : Int) (k : Int × Int → R) : bits_Div64.ok M hi lo y = true → bits_Div64.k M (bits_LeadingZeros64 M) (bits_LeadingZeros64.ok M) (bits_Div64.L17 M) (bits_Div64.L17.ok M) (bits_Div64.L24 M) (bits_Div64.L24.ok M) hi lo y k = k (bits_Div64 M hi lo y) := by
  unfold bits_Div64.ok bits_Div64.k bits_Div64
  exact kR (kR (kC (kL (kL (fun _ => rfl))) (kL (kL (kL (kL (kL (kL (kL (kL (kL (kL (fun _ => rfl)))))))))))))
theorem bits_Div64.call (hi : Int) (lo : Int) (y : Int) (h : bits_Div64.ok M0 hi lo y = true) : PureOK Tryz.prog 157 [(.int .u64 hi), (.int .u64 lo), (.int .u64 y)] (.tuple ⟨[(.int .u64 ((bits_Div64 M0 hi lo y).1)), (.int .u64 ((bits_Div64 M0 hi lo y).2))]⟩) :=
  evP_sound (P := Tryz.prog) mixed tabOK bits_Div64.fnsOK Tryz.func157 rfl (Λ := (bits_Div64.lps (bits_Div64.L17 M0) (bits_Div64.L17.ok M0) (bits_Div64.L24 M0) (bits_Div64.L24.ok M0))) (c := Tryz.f157.body.getD .skip) rfl bits_Div64.lpsOK rfl (Nat.zero_le 1) rfl rfl ((bits_Div64.ev M0 (bits_LeadingZeros64 M0) (bits_LeadingZeros64.ok M0) (bits_Div64.L17 M0) (bits_Div64.L17.ok M0) (bits_Div64.L24 M0) (bits_Div64.L24.ok M0) hi lo y).trans (bits_Div64.k_eq M0 hi lo y _ h))
def bits_Div64.ph (c157 : Int → Int → Int → Int × Int) (c157ok : Int → Int → Int → Bool) : Ph := fun args => match args with
  | [.int .u64 a0_, .int .u64 a1_, .int .u64 a2_] => some (c157ok a0_ a1_ a2_, .tuple ⟨[(.int .u64 ((c157 a0_ a1_ a2_).1)), (.int .u64 ((c157 a0_ a1_ a2_).2))]⟩)
  | _ => none
theorem bits_Div64.phOK : PhOK Tryz.prog 157 (bits_Div64.ph (bits_Div64 M0) (bits_Div64.ok M0)) := ⟨by
  intro args v h
  unfold bits_Div64.ph at h
  split at h
  · rename_i a0_ a1_ a2_
    simp only [Option.some.injEq, Prod.mk.injEq] at h
    obtain ⟨hok, rfl⟩ := h
    exact ⟨rfl, rfl, bits_Div64.call a0_ a1_ a2_ hok⟩
  · cases h⟩
def round_Div.k (M : Prims) (c139 : Nat → Nat → Bool) (c139ok : Nat → Nat → Bool) (c140 : Nat → LExact) (c140ok : Nat → Bool) (c142 : LExact → Bool → Nat) (c142ok : LExact → Bool → Bool) (c147 : LExact → Int → LExact) (c147ok : LExact → Int → Bool) (c148 : LExact → Int) (c148ok : LExact → Bool) (c157 : Int → Int → Int → Int × Int) (c157ok : Int → Int → Int → Bool) (a : Nat) (b : Nat) (down : Bool) (k : Nat × Int → R) : R :=
  cond (c139ok a b)
    (cond (!(c139 a b))
       (k (0, 10))
       (cond (M.eq b 0)
          (k (0, 11))
          (let x4 := c140 a
           cond (c140ok a)
             (let x5 := c140 b
              cond (c140ok b)
                (cond (c148ok x4)
                   (let x7 := IntKind.i64.wrap (117 - (c148 x4))
                    let x8 := c147 x4 x7
                    cond (c147ok x4 x7)
                      (cond (c148ok x5)
                         (let x10 := IntKind.i64.wrap (53 - (c148 x5))
                          let x11 := c147 x5 x10
                          cond (c147ok x5 x10)
                            (let x12 := !(x8.neg == x11.neg)
                             let x13 := IntKind.i64.wrap (x8.e - x11.e)
                             let x14 := c157 0 x8.hi x11.lo
                             cond (c157ok 0 x8.hi x11.lo)
                               (let x15 := c157 x14.2 x8.lo x11.lo
                                cond (c157ok x14.2 x8.lo x11.lo)
                                  (let x16 := (x15.2 : Int) != 0
                                   cond (c142ok (⟨x12, x14.1, x15.1, x13, x16⟩ : LExact) down)
                                     (k ((c142 (⟨x12, x14.1, x15.1, x13, x16⟩ : LExact) down), 0))
                                     (none))
                                  (none))
                               (none))
                            (none))
                         (none))
                      (none))
                   (none))
                (none))
             (none))))
    (none)
def round_Div (M : Prims) (a : Nat) (b : Nat) (down : Bool) : Nat × Int :=
  cond (!(round_two M a b))
    ((0, 10))
    (cond (M.eq b 0)
       ((0, 11))
       (let x4 := round_split M a
        let x5 := round_split M b
        let x8 := round_exact_left M x4 (IntKind.i64.wrap (117 - (round_exact_length M x4)))
        let x11 := round_exact_left M x5 (IntKind.i64.wrap (53 - (round_exact_length M x5)))
        let x14 := bits_Div64 M 0 x8.hi x11.lo
        let x15 := bits_Div64 M x14.2 x8.lo x11.lo
        ((round_exact_to M (⟨(!(x8.neg == x11.neg)), x14.1, x15.1, (IntKind.i64.wrap (x8.e - x11.e)), ((x15.2 : Int) != 0)⟩ : LExact) down), 0)))
def round_Div.ok (M : Prims) (a : Nat) (b : Nat) (down : Bool) : Bool :=
  cond (round_two.ok M a b)
    (cond (!(round_two M a b))
       (true)
       (cond (M.eq b 0)
          (true)
          (let x4 := round_split M a
           cond (round_split.ok M a)
             (let x5 := round_split M b
              cond (round_split.ok M b)
                (cond (round_exact_length.ok M x4)
                   (let x7 := IntKind.i64.wrap (117 - (round_exact_length M x4))
                    let x8 := round_exact_left M x4 x7
                    cond (round_exact_left.ok M x4 x7)
                      (cond (round_exact_length.ok M x5)
                         (let x10 := IntKind.i64.wrap (53 - (round_exact_length M x5))
                          let x11 := round_exact_left M x5 x10
                          cond (round_exact_left.ok M x5 x10)
                            (let x14 := bits_Div64 M 0 x8.hi x11.lo
                             cond (bits_Div64.ok M 0 x8.hi x11.lo)
                               (let x15 := bits_Div64 M x14.2 x8.lo x11.lo
                                cond (bits_Div64.ok M x14.2 x8.lo x11.lo)
                                  (cond (round_exact_to.ok M (⟨(!(x8.neg == x11.neg)), x14.1, x15.1, (IntKind.i64.wrap (x8.e - x11.e)), ((x15.2 : Int) != 0)⟩ : LExact) down)
                                     (true)
                                     (false))
                                  (false))
                               (false))
                            (false))
                         (false))
                      (false))
                   (false))
                (false))
             (false))))
    (false)
def round_Div.fns (c139 : Nat → Nat → Bool) (c139ok : Nat → Nat → Bool) (c140 : Nat → LExact) (c140ok : Nat → Bool) (c142 : LExact → Bool → Nat) (c142ok : LExact → Bool → Bool) (c147 : LExact → Int → LExact) (c147ok : LExact → Int → Bool) (c148 : LExact → Int) (c148ok : LExact → Bool) (c157 : Int → Int → Int → Int × Int) (c157ok : Int → Int → Int → Bool) : FuncId → List Value → Option (Bool × Value) := ifId 139 (round_two.ph c139 c139ok) <| ifId 140 (round_split.ph c140 c140ok) <| ifId 142 (round_exact_to.ph c142 c142ok) <| ifId 147 (round_exact_left.ph c147 c147ok) <| ifId 148 (round_exact_length.ph c148 c148ok) <| ifId 157 (bits_Div64.ph c157 c157ok) <| noFns
theorem round_Div.fnsOK : PureFns Tryz.prog (round_Div.fns (round_two M0) (round_two.ok M0) (round_split M0) (round_split.ok M0) (round_exact_to M0) (round_exact_to.ok M0) (round_exact_left M0) (round_exact_left.ok M0) (round_exact_length M0) (round_exact_length.ok M0) (bits_Div64 M0) (bits_Div64.ok M0)) := ifIdOK round_two.phOK <| ifIdOK round_split.phOK <| ifIdOK round_exact_to.phOK <| ifIdOK round_exact_left.phOK <| ifIdOK round_exact_length.phOK <| ifIdOK bits_Div64.phOK <| noFnsOK
theorem round_Div.ev (M : Prims) (c139 : Nat → Nat → Bool) (c139ok : Nat → Nat → Bool) (c140 : Nat → LExact) (c140ok : Nat → Bool) (c142 : LExact → Bool → Nat) (c142ok : LExact → Bool → Bool) (c147 : LExact → Int → LExact) (c147ok : LExact → Int → Bool) (c148 : LExact → Int) (c148ok : LExact → Bool) (c157 : Int → Int → Int → Int × Int) (c157ok : Int → Int → Int → Bool)  (a : Nat) (b : Nat) (down : Bool) : evP tab M (round_Div.fns c139 c139ok c140 c140ok c142 c142ok c147 c147ok c148 c148ok c157 c157ok) noLoops 300 Tryz.f116 [(.float .f64 a), (.float .f64 b), (.bool down)] = round_Div.k M c139 c139ok c140 c140ok c142 c142ok c147 c147ok c148 c148ok c157 c157ok  a b down (fun r => some (.tuple ⟨[(.float .f64 r.1), (.int .i64 r.2)]⟩, [])) := by kernel_rfl
theorem round_Div.k_eq (M : Prims) (a : Nat) (b : Nat) (down : Bool) (k : Nat × Int → R) : round_Div.ok M a b down = true → round_Div.k M (round_two M) (round_two.ok M) (round_split M) (round_split.ok M) (round_exact_to M) (round_exact_to.ok M) (round_exact_left M) (round_exact_left.ok M) (round_exact_length M) (round_exact_length.ok M) (bits_Div64 M) (bits_Div64.ok M) a b down k = k (round_Div M a b down) := by
  unfold round_Div.ok round_Div.k round_Div
  exact kL (kC (fun _ => rfl) (kC (fun _ => rfl) (kL (kL (kL (kL (kL (kL (kL (kL (kL (fun _ => rfl))))))))))))
theorem round_Div.call (a : Nat) (b : Nat) (down : Bool) (h : round_Div.ok M0 a b down = true) : PureOK Tryz.prog 116 [(.float .f64 a), (.float .f64 b), (.bool down)] (.tuple ⟨[(.float .f64 ((round_Div M0 a b down).1)), (.int .i64 ((round_Div M0 a b down).2))]⟩) :=
  evP_sound (P := Tryz.prog) mixed tabOK round_Div.fnsOK Tryz.func116 rfl (Λ := noLoops) (c := Tryz.f116.body.getD .skip) rfl (noLoopsOK _) rfl (Nat.zero_le 1) rfl rfl ((round_Div.ev M0 (round_two M0) (round_two.ok M0) (round_split M0) (round_split.ok M0) (round_exact_to M0) (round_exact_to.ok M0) (round_exact_left M0) (round_exact_left.ok M0) (round_exact_length M0) (round_exact_length.ok M0) (bits_Div64 M0) (bits_Div64.ok M0) a b down).trans (round_Div.k_eq M0 a b down _ h))
def round_Div.ph (c116 : Nat → Nat → Bool → Nat × Int) (c116ok : Nat → Nat → Bool → Bool) : Ph := fun args => match args with
  | [.float .f64 a0_, .float .f64 a1_, .bool a2_] => some (c116ok a0_ a1_ a2_, .tuple ⟨[(.float .f64 ((c116 a0_ a1_ a2_).1)), (.int .i64 ((c116 a0_ a1_ a2_).2))]⟩)
  | _ => none
theorem round_Div.phOK : PhOK Tryz.prog 116 (round_Div.ph (round_Div M0) (round_Div.ok M0)) := ⟨by
  intro args v h
  unfold round_Div.ph at h
  split at h
  · rename_i a0_ a1_ a2_
    simp only [Option.some.injEq, Prod.mk.injEq] at h
    obtain ⟨hok, rfl⟩ := h
    exact ⟨rfl, rfl, round_Div.call a0_ a1_ a2_ hok⟩
  · cases h⟩
def span_Div.k (M : Prims) (c116 : Nat → Nat → Bool → Nat × Int) (c116ok : Nat → Nat → Bool → Bool) (c67 : Int → Nat) (c93 : LSpan → Bool) (c93ok : LSpan → Bool) (c94 : LSpan) (a : LSpan) (b : LSpan) (k : LSpan → R) : R :=
  cond (M.le b.lo 0)
    (cond (M.ge b.hi 0)
       (k c94)
       (cond (c93ok a)
          (cond (c93 a)
             (k c94)
             (cond (c93ok b)
                (cond (c93 b)
                   (k c94)
                   (cond (c116ok a.lo b.lo true)
                      (cond (c116ok a.lo b.lo false)
                         (cond (c116ok a.lo b.hi true)
                            (cond (c116ok a.lo b.hi false)
                               (cond (c116ok a.hi b.lo true)
                                  (cond (c116ok a.hi b.lo false)
                                     (cond (c116ok a.hi b.hi true)
                                        (cond (c116ok a.hi b.hi false)
                                           (k (⟨(M.min (M.min (M.min (M.min (c67 1) (c116 a.lo b.lo true).1) (c116 a.lo b.hi true).1) (c116 a.hi b.lo true).1) (c116 a.hi b.hi true).1), (M.max (M.max (M.max (M.max (c67 (-1)) (c116 a.lo b.lo false).1) (c116 a.lo b.hi false).1) (c116 a.hi b.lo false).1) (c116 a.hi b.hi false).1)⟩ : LSpan))
                                           (none))
                                        (none))
                                     (none))
                                  (none))
                               (none))
                            (none))
                         (none))
                      (none)))
                (none)))
          (none)))
    (cond (c93ok a)
       (cond (c93 a)
          (k c94)
          (cond (c93ok b)
             (cond (c93 b)
                (k c94)
                (cond (c116ok a.lo b.lo true)
                   (cond (c116ok a.lo b.lo false)
                      (cond (c116ok a.lo b.hi true)
                         (cond (c116ok a.lo b.hi false)
                            (cond (c116ok a.hi b.lo true)
                               (cond (c116ok a.hi b.lo false)
                                  (cond (c116ok a.hi b.hi true)
                                     (cond (c116ok a.hi b.hi false)
                                        (k (⟨(M.min (M.min (M.min (M.min (c67 1) (c116 a.lo b.lo true).1) (c116 a.lo b.hi true).1) (c116 a.hi b.lo true).1) (c116 a.hi b.hi true).1), (M.max (M.max (M.max (M.max (c67 (-1)) (c116 a.lo b.lo false).1) (c116 a.lo b.hi false).1) (c116 a.hi b.lo false).1) (c116 a.hi b.hi false).1)⟩ : LSpan))
                                        (none))
                                     (none))
                                  (none))
                               (none))
                            (none))
                         (none))
                      (none))
                   (none)))
             (none)))
       (none))
def span_Div (M : Prims) (a : LSpan) (b : LSpan) : LSpan :=
  cond (M.le b.lo 0)
    (cond (M.ge b.hi 0)
       ((span_All M))
       (cond (span_Wide M a)
          ((span_All M))
          (cond (span_Wide M b)
             ((span_All M))
             ((⟨(M.min (M.min (M.min (M.min (math_Inf M 1) (round_Div M a.lo b.lo true).1) (round_Div M a.lo b.hi true).1) (round_Div M a.hi b.lo true).1) (round_Div M a.hi b.hi true).1), (M.max (M.max (M.max (M.max (math_Inf M (-1)) (round_Div M a.lo b.lo false).1) (round_Div M a.lo b.hi false).1) (round_Div M a.hi b.lo false).1) (round_Div M a.hi b.hi false).1)⟩ : LSpan)))))
    (cond (span_Wide M a)
       ((span_All M))
       (cond (span_Wide M b)
          ((span_All M))
          ((⟨(M.min (M.min (M.min (M.min (math_Inf M 1) (round_Div M a.lo b.lo true).1) (round_Div M a.lo b.hi true).1) (round_Div M a.hi b.lo true).1) (round_Div M a.hi b.hi true).1), (M.max (M.max (M.max (M.max (math_Inf M (-1)) (round_Div M a.lo b.lo false).1) (round_Div M a.lo b.hi false).1) (round_Div M a.hi b.lo false).1) (round_Div M a.hi b.hi false).1)⟩ : LSpan))))
def span_Div.ok (M : Prims) (a : LSpan) (b : LSpan) : Bool :=
  cond (M.le b.lo 0)
    (cond (M.ge b.hi 0)
       (true)
       (cond (span_Wide.ok M a)
          (cond (span_Wide M a)
             (true)
             (cond (span_Wide.ok M b)
                (cond (span_Wide M b)
                   (true)
                   (cond (round_Div.ok M a.lo b.lo true)
                      (cond (round_Div.ok M a.lo b.lo false)
                         (cond (round_Div.ok M a.lo b.hi true)
                            (cond (round_Div.ok M a.lo b.hi false)
                               (cond (round_Div.ok M a.hi b.lo true)
                                  (cond (round_Div.ok M a.hi b.lo false)
                                     (cond (round_Div.ok M a.hi b.hi true)
                                        (cond (round_Div.ok M a.hi b.hi false)
                                           (true)
                                           (false))
                                        (false))
                                     (false))
                                  (false))
                               (false))
                            (false))
                         (false))
                      (false)))
                (false)))
          (false)))
    (cond (span_Wide.ok M a)
       (cond (span_Wide M a)
          (true)
          (cond (span_Wide.ok M b)
             (cond (span_Wide M b)
                (true)
                (cond (round_Div.ok M a.lo b.lo true)
                   (cond (round_Div.ok M a.lo b.lo false)
                      (cond (round_Div.ok M a.lo b.hi true)
                         (cond (round_Div.ok M a.lo b.hi false)
                            (cond (round_Div.ok M a.hi b.lo true)
                               (cond (round_Div.ok M a.hi b.lo false)
                                  (cond (round_Div.ok M a.hi b.hi true)
                                     (cond (round_Div.ok M a.hi b.hi false)
                                        (true)
                                        (false))
                                     (false))
                                  (false))
                               (false))
                            (false))
                         (false))
                      (false))
                   (false)))
             (false)))
       (false))
def span_Div.fns (c116 : Nat → Nat → Bool → Nat × Int) (c116ok : Nat → Nat → Bool → Bool) (c67 : Int → Nat) (c93 : LSpan → Bool) (c93ok : LSpan → Bool) (c94 : LSpan) : FuncId → List Value → Option (Bool × Value) := ifId 116 (round_Div.ph c116 c116ok) <| ifId 67 (math_Inf.ph c67) <| ifId 93 (span_Wide.ph c93 c93ok) <| ifId 94 (span_All.ph c94) <| noFns
theorem span_Div.fnsOK : PureFns Tryz.prog (span_Div.fns (round_Div M0) (round_Div.ok M0) (math_Inf M0) (span_Wide M0) (span_Wide.ok M0) (span_All M0)) := ifIdOK round_Div.phOK <| ifIdOK math_Inf.phOK <| ifIdOK span_Wide.phOK <| ifIdOK span_All.phOK <| noFnsOK
theorem span_Div.ev (M : Prims) (c116 : Nat → Nat → Bool → Nat × Int) (c116ok : Nat → Nat → Bool → Bool) (c67 : Int → Nat) (c93 : LSpan → Bool) (c93ok : LSpan → Bool) (c94 : LSpan)  (a : LSpan) (b : LSpan) : evP tab M (span_Div.fns c116 c116ok c67 c93 c93ok c94) noLoops 300 Tryz.f68 [a.val, b.val] = span_Div.k M c116 c116ok c67 c93 c93ok c94  a b (fun r => some (r.val, [])) := by kernel_rfl
theorem span_Div.k_eq (M : Prims) (a : LSpan) (b : LSpan) (k : LSpan → R) : span_Div.ok M a b = true → span_Div.k M (round_Div M) (round_Div.ok M) (math_Inf M) (span_Wide M) (span_Wide.ok M) (span_All M) a b k = k (span_Div M a b) := by
  unfold span_Div.ok span_Div.k span_Div
  exact kC (kC (fun _ => rfl) (kL (kC (fun _ => rfl) (kL (kC (fun _ => rfl) (kL (kL (kL (kL (kL (kL (kL (kL (fun _ => rfl)))))))))))))) (kL (kC (fun _ => rfl) (kL (kC (fun _ => rfl) (kL (kL (kL (kL (kL (kL (kL (kL (fun _ => rfl)))))))))))))
theorem span_Div.call (a : LSpan) (b : LSpan) (h : span_Div.ok M0 a b = true) : PureOK Tryz.prog 68 [a.val, b.val] ((span_Div M0 a b).val) :=
  evP_sound (P := Tryz.prog) mixed tabOK span_Div.fnsOK Tryz.func68 rfl (Λ := noLoops) (c := Tryz.f68.body.getD .skip) rfl (noLoopsOK _) rfl (Nat.zero_le 1) rfl rfl ((span_Div.ev M0 (round_Div M0) (round_Div.ok M0) (math_Inf M0) (span_Wide M0) (span_Wide.ok M0) (span_All M0) a b).trans (span_Div.k_eq M0 a b _ h))
def span_Div.ph (c68 : LSpan → LSpan → LSpan) (c68ok : LSpan → LSpan → Bool) : Ph := fun args => match args with
  | [.agg ⟨[.float .f64 a0_0, .float .f64 a0_1]⟩, .agg ⟨[.float .f64 a1_0, .float .f64 a1_1]⟩] => some (c68ok (⟨a0_0, a0_1⟩ : LSpan) (⟨a1_0, a1_1⟩ : LSpan), (c68 (⟨a0_0, a0_1⟩ : LSpan) (⟨a1_0, a1_1⟩ : LSpan)).val)
  | _ => none
theorem span_Div.phOK : PhOK Tryz.prog 68 (span_Div.ph (span_Div M0) (span_Div.ok M0)) := ⟨by
  intro args v h
  unfold span_Div.ph at h
  split at h
  · rename_i a0_0 a0_1 a1_0 a1_1
    simp only [Option.some.injEq, Prod.mk.injEq] at h
    obtain ⟨hok, rfl⟩ := h
    exact ⟨rfl, rfl, span_Div.call (⟨a0_0, a0_1⟩ : LSpan) (⟨a1_0, a1_1⟩ : LSpan) hok⟩
  · cases h⟩
def shape_all_s4.k (_ : Prims) (list0 : Int) (list1 : Int) (list2 : Int) (list3 : Int) (k : Int → R) : R :=
  cond ((list0 : Int) == 0)
    (k 0)
    (cond ((list0 : Int) != 1)
       (cond ((list1 : Int) == 0)
          (k 0)
          (cond ((list1 : Int) != 1)
             (cond ((list2 : Int) == 0)
                (k 0)
                (cond ((list2 : Int) != 1)
                   (cond ((list3 : Int) == 0)
                      (k 0)
                      (cond ((list3 : Int) != 1)
                         (k 2)
                         (k 2)))
                   (cond ((list3 : Int) == 0)
                      (k 0)
                      (cond ((list3 : Int) != 1)
                         (k 2)
                         (k 2)))))
             (cond ((list2 : Int) == 0)
                (k 0)
                (cond ((list2 : Int) != 1)
                   (cond ((list3 : Int) == 0)
                      (k 0)
                      (cond ((list3 : Int) != 1)
                         (k 2)
                         (k 2)))
                   (cond ((list3 : Int) == 0)
                      (k 0)
                      (cond ((list3 : Int) != 1)
                         (k 2)
                         (k 2)))))))
       (cond ((list1 : Int) == 0)
          (k 0)
          (cond ((list1 : Int) != 1)
             (cond ((list2 : Int) == 0)
                (k 0)
                (cond ((list2 : Int) != 1)
                   (cond ((list3 : Int) == 0)
                      (k 0)
                      (cond ((list3 : Int) != 1)
                         (k 2)
                         (k 2)))
                   (cond ((list3 : Int) == 0)
                      (k 0)
                      (cond ((list3 : Int) != 1)
                         (k 2)
                         (k 2)))))
             (cond ((list2 : Int) == 0)
                (k 0)
                (cond ((list2 : Int) != 1)
                   (cond ((list3 : Int) == 0)
                      (k 0)
                      (cond ((list3 : Int) != 1)
                         (k 2)
                         (k 2)))
                   (cond ((list3 : Int) == 0)
                      (k 0)
                      (cond ((list3 : Int) != 1)
                         (k 2)
                         (k 1))))))))
def shape_all_s4 (_ : Prims) (list0 : Int) (list1 : Int) (list2 : Int) (list3 : Int) : Int :=
  cond ((list0 : Int) == 0)
    (0)
    (cond ((list0 : Int) != 1)
       (cond ((list1 : Int) == 0)
          (0)
          (cond ((list1 : Int) != 1)
             (cond ((list2 : Int) == 0)
                (0)
                (cond ((list2 : Int) != 1)
                   (cond ((list3 : Int) == 0)
                      (0)
                      (cond ((list3 : Int) != 1)
                         (2)
                         (2)))
                   (cond ((list3 : Int) == 0)
                      (0)
                      (cond ((list3 : Int) != 1)
                         (2)
                         (2)))))
             (cond ((list2 : Int) == 0)
                (0)
                (cond ((list2 : Int) != 1)
                   (cond ((list3 : Int) == 0)
                      (0)
                      (cond ((list3 : Int) != 1)
                         (2)
                         (2)))
                   (cond ((list3 : Int) == 0)
                      (0)
                      (cond ((list3 : Int) != 1)
                         (2)
                         (2)))))))
       (cond ((list1 : Int) == 0)
          (0)
          (cond ((list1 : Int) != 1)
             (cond ((list2 : Int) == 0)
                (0)
                (cond ((list2 : Int) != 1)
                   (cond ((list3 : Int) == 0)
                      (0)
                      (cond ((list3 : Int) != 1)
                         (2)
                         (2)))
                   (cond ((list3 : Int) == 0)
                      (0)
                      (cond ((list3 : Int) != 1)
                         (2)
                         (2)))))
             (cond ((list2 : Int) == 0)
                (0)
                (cond ((list2 : Int) != 1)
                   (cond ((list3 : Int) == 0)
                      (0)
                      (cond ((list3 : Int) != 1)
                         (2)
                         (2)))
                   (cond ((list3 : Int) == 0)
                      (0)
                      (cond ((list3 : Int) != 1)
                         (2)
                         (1))))))))
def shape_all_s4.fns : FuncId → List Value → Option (Bool × Value) := noFns
theorem shape_all_s4.fnsOK : PureFns Tryz.prog shape_all_s4.fns := noFnsOK
theorem shape_all_s4.ev (M : Prims)   (list0 : Int) (list1 : Int) (list2 : Int) (list3 : Int) : evP tab M shape_all_s4.fns noLoops 300 Tryz.f131 [.tuple ⟨[.int .i64 57, .int .i64 4, .int .i64 4, .int .i64 list0, .int .i64 list1, .int .i64 list2, .int .i64 list3]⟩] = shape_all_s4.k M   list0 list1 list2 list3 (fun r => some ((.int .i64 r), [([.int .i64 list0, .int .i64 list1, .int .i64 list2, .int .i64 list3], 57)])) := by kernel_rfl
theorem shape_all_s4.k_eq (M : Prims) (list0 : Int) (list1 : Int) (list2 : Int) (list3 : Int) (k : Int → R) : shape_all_s4.k M  list0 list1 list2 list3 k = k (shape_all_s4 M list0 list1 list2 list3) := by
  unfold shape_all_s4.k shape_all_s4
  exact pC rfl (pC (pC rfl (pC (pC rfl (pC (pC rfl (pC rfl rfl)) (pC rfl (pC rfl rfl)))) (pC rfl (pC (pC rfl (pC rfl rfl)) (pC rfl (pC rfl rfl)))))) (pC rfl (pC (pC rfl (pC (pC rfl (pC rfl rfl)) (pC rfl (pC rfl rfl)))) (pC rfl (pC (pC rfl (pC rfl rfl)) (pC rfl (pC rfl rfl)))))))
theorem shape_all_s4.call (list0 : Int) (list1 : Int) (list2 : Int) (list3 : Int) : PureOK Tryz.prog 131 [.tuple ⟨[.int .i64 57, .int .i64 4, .int .i64 4, .int .i64 list0, .int .i64 list1, .int .i64 list2, .int .i64 list3]⟩] (.int .i64 (shape_all_s4 M0 list0 list1 list2 list3)) :=
  evP_sound (P := Tryz.prog) mixed tabOK shape_all_s4.fnsOK Tryz.func131 rfl (Λ := noLoops) (c := Tryz.f131.body.getD .skip) rfl (noLoopsOK _) rfl (Nat.le_refl 1) rfl rfl ((shape_all_s4.ev M0  list0 list1 list2 list3).trans (shape_all_s4.k_eq M0 list0 list1 list2 list3 _))
def shape_all_s4.ph (c131_4 : Int → Int → Int → Int → Int) : Ph := fun args => match args with
  | [.tuple ⟨[.int .i64 57, .int .i64 4, .int .i64 4, .int .i64 a0_0, .int .i64 a0_1, .int .i64 a0_2, .int .i64 a0_3]⟩] => some (true, (.int .i64 (c131_4 a0_0 a0_1 a0_2 a0_3)))
  | _ => none
theorem shape_all_s4.phOK : PhOK Tryz.prog 131 (shape_all_s4.ph (shape_all_s4 M0)) := ⟨by
  intro args v h
  unfold shape_all_s4.ph at h
  split at h
  · rename_i a0_0 a0_1 a0_2 a0_3
    simp only [Option.some.injEq, Prod.mk.injEq, true_and] at h
    subst h
    exact ⟨rfl, rfl, shape_all_s4.call a0_0 a0_1 a0_2 a0_3⟩
  · cases h⟩
end Go.Lan
