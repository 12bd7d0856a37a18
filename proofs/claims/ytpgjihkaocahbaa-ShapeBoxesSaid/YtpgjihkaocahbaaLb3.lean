import Derived.Test.YtpgjihkaocahbaaLb2
namespace Go.Lan
open Go.Proofs
def round_Mul.k (_ : Prims) (c100 : Nat → LExact) (c100ok : Nat → Bool) (c104 : LExact → Bool → Nat) (c104ok : LExact → Bool → Bool) (c105 : Int → Int → Int × Int) (c99 : Nat → Nat → Bool) (c99ok : Nat → Nat → Bool) (a : Nat) (b : Nat) (down : Bool) (k : Nat × Int → R) : R :=
  cond (c99ok a b)
    (cond (!(c99 a b))
       (k (0, 10))
       (let x3 := c100 a
        cond (c100ok a)
          (let x4 := c100 b
           cond (c100ok b)
             (let x5 := c105 x3.lo x4.lo
              let x6 := !(x3.neg == x4.neg)
              let x7 := IntKind.i64.wrap (x3.e + x4.e)
              cond (c104ok (⟨x6, x5.1, x5.2, x7, false⟩ : LExact) down)
                (k ((c104 (⟨x6, x5.1, x5.2, x7, false⟩ : LExact) down), 0))
                (none))
             (none))
          (none)))
    (none)
def round_Mul (M : Prims) (a : Nat) (b : Nat) (down : Bool) : Nat × Int :=
  cond (!(round_two M a b))
    ((0, 10))
    (let x3 := round_split M a
     let x4 := round_split M b
     let x5 := bits_Mul64 M x3.lo x4.lo
     ((round_exact_to M (⟨(!(x3.neg == x4.neg)), x5.1, x5.2, (IntKind.i64.wrap (x3.e + x4.e)), false⟩ : LExact) down), 0))
def round_Mul.ok (M : Prims) (a : Nat) (b : Nat) (down : Bool) : Bool :=
  cond (round_two.ok M a b)
    (cond (!(round_two M a b))
       (true)
       (let x3 := round_split M a
        cond (round_split.ok M a)
          (let x4 := round_split M b
           cond (round_split.ok M b)
             (let x5 := bits_Mul64 M x3.lo x4.lo
              cond (round_exact_to.ok M (⟨(!(x3.neg == x4.neg)), x5.1, x5.2, (IntKind.i64.wrap (x3.e + x4.e)), false⟩ : LExact) down)
                (true)
                (false))
             (false))
          (false)))
    (false)
def round_Mul.fns (c100 : Nat → LExact) (c100ok : Nat → Bool) (c104 : LExact → Bool → Nat) (c104ok : LExact → Bool → Bool) (c105 : Int → Int → Int × Int) (c99 : Nat → Nat → Bool) (c99ok : Nat → Nat → Bool) : FuncId → List Value → Option (Bool × Value) := ifId 100 (round_split.ph c100 c100ok) <| ifId 104 (round_exact_to.ph c104 c104ok) <| ifId 105 (bits_Mul64.ph c105) <| ifId 99 (round_two.ph c99 c99ok) <| noFns
theorem round_Mul.fnsOK : PureFns Try.prog (round_Mul.fns (round_split M0) (round_split.ok M0) (round_exact_to M0) (round_exact_to.ok M0) (bits_Mul64 M0) (round_two M0) (round_two.ok M0)) := ifIdOK round_split.phOK <| ifIdOK round_exact_to.phOK <| ifIdOK bits_Mul64.phOK <| ifIdOK round_two.phOK <| noFnsOK
theorem round_Mul.ev (M : Prims) (c100 : Nat → LExact) (c100ok : Nat → Bool) (c104 : LExact → Bool → Nat) (c104ok : LExact → Bool → Bool) (c105 : Int → Int → Int × Int) (c99 : Nat → Nat → Bool) (c99ok : Nat → Nat → Bool)  (a : Nat) (b : Nat) (down : Bool) : evP tab M (round_Mul.fns c100 c100ok c104 c104ok c105 c99 c99ok) noLoops 300 Try.f79 [(.float .f64 a), (.float .f64 b), (.bool down)] = round_Mul.k M c100 c100ok c104 c104ok c105 c99 c99ok  a b down (fun r => some (.tuple ⟨[(.float .f64 r.1), (.int .i64 r.2)]⟩, [])) := by kernel_rfl
theorem round_Mul.k_eq (M : Prims) (a : Nat) (b : Nat) (down : Bool) (k : Nat × Int → R) : round_Mul.ok M a b down = true → round_Mul.k M (round_split M) (round_split.ok M) (round_exact_to M) (round_exact_to.ok M) (bits_Mul64 M) (round_two M) (round_two.ok M) a b down k = k (round_Mul M a b down) := by
  unfold round_Mul.ok round_Mul.k round_Mul
  exact kL (kC (fun _ => rfl) (kL (kL (kL (fun _ => rfl)))))
theorem round_Mul.call (a : Nat) (b : Nat) (down : Bool) (h : round_Mul.ok M0 a b down = true) : PureOK Try.prog 79 [(.float .f64 a), (.float .f64 b), (.bool down)] (.tuple ⟨[(.float .f64 ((round_Mul M0 a b down).1)), (.int .i64 ((round_Mul M0 a b down).2))]⟩) :=
  evP_sound (P := Try.prog) mixed tabOK round_Mul.fnsOK Try.func79 rfl (Λ := noLoops) (c := Try.f79.body.getD .skip) rfl (noLoopsOK _) rfl (Nat.zero_le 1) rfl rfl ((round_Mul.ev M0 (round_split M0) (round_split.ok M0) (round_exact_to M0) (round_exact_to.ok M0) (bits_Mul64 M0) (round_two M0) (round_two.ok M0) a b down).trans (round_Mul.k_eq M0 a b down _ h))
def round_Mul.ph (c79 : Nat → Nat → Bool → Nat × Int) (c79ok : Nat → Nat → Bool → Bool) : Ph := fun args => match args with
  | [.float .f64 a0_, .float .f64 a1_, .bool a2_] => some (c79ok a0_ a1_ a2_, .tuple ⟨[(.float .f64 ((c79 a0_ a1_ a2_).1)), (.int .i64 ((c79 a0_ a1_ a2_).2))]⟩)
  | _ => none
theorem round_Mul.phOK : PhOK Try.prog 79 (round_Mul.ph (round_Mul M0) (round_Mul.ok M0)) := ⟨by
  intro args v h
  unfold round_Mul.ph at h
  split at h
  · rename_i a0_ a1_ a2_
    simp only [Option.some.injEq, Prod.mk.injEq] at h
    obtain ⟨hok, rfl⟩ := h
    exact ⟨rfl, rfl, round_Mul.call a0_ a1_ a2_ hok⟩
  · cases h⟩
def span_Mul.k (M : Prims) (c75 : LSpan → Bool) (c75ok : LSpan → Bool) (c76 : LSpan) (c77 : Int → Nat) (c79 : Nat → Nat → Bool → Nat × Int) (c79ok : Nat → Nat → Bool → Bool) (a : LSpan) (b : LSpan) (k : LSpan → R) : R :=
  cond (M.eq a.lo 0 && (M.eq a.hi 0 && true))
    (k (⟨0, 0⟩ : LSpan))
    (cond (M.eq b.lo 0 && (M.eq b.hi 0 && true))
       (k (⟨0, 0⟩ : LSpan))
       (cond (c75ok a)
          (cond (c75 a)
             (k c76)
             (cond (c75ok b)
                (cond (c75 b)
                   (k c76)
                   (cond (c79ok a.lo b.lo true)
                      (cond (c79ok a.lo b.lo false)
                         (cond (c79ok a.lo b.hi true)
                            (cond (c79ok a.lo b.hi false)
                               (cond (c79ok a.hi b.lo true)
                                  (cond (c79ok a.hi b.lo false)
                                     (cond (c79ok a.hi b.hi true)
                                        (cond (c79ok a.hi b.hi false)
                                           (k (⟨(M.min (M.min (M.min (M.min (c77 1) (c79 a.lo b.lo true).1) (c79 a.lo b.hi true).1) (c79 a.hi b.lo true).1) (c79 a.hi b.hi true).1), (M.max (M.max (M.max (M.max (c77 (-1)) (c79 a.lo b.lo false).1) (c79 a.lo b.hi false).1) (c79 a.hi b.lo false).1) (c79 a.hi b.hi false).1)⟩ : LSpan))
                                           (none))
                                        (none))
                                     (none))
                                  (none))
                               (none))
                            (none))
                         (none))
                      (none)))
                (none)))
          (none)))
def span_Mul (M : Prims) (a : LSpan) (b : LSpan) : LSpan :=
  cond (M.eq a.lo 0 && (M.eq a.hi 0 && true))
    ((⟨0, 0⟩ : LSpan))
    (cond (M.eq b.lo 0 && (M.eq b.hi 0 && true))
       ((⟨0, 0⟩ : LSpan))
       (cond (span_Wide M a)
          ((span_All M))
          (cond (span_Wide M b)
             ((span_All M))
             ((⟨(M.min (M.min (M.min (M.min (math_Inf M 1) (round_Mul M a.lo b.lo true).1) (round_Mul M a.lo b.hi true).1) (round_Mul M a.hi b.lo true).1) (round_Mul M a.hi b.hi true).1), (M.max (M.max (M.max (M.max (math_Inf M (-1)) (round_Mul M a.lo b.lo false).1) (round_Mul M a.lo b.hi false).1) (round_Mul M a.hi b.lo false).1) (round_Mul M a.hi b.hi false).1)⟩ : LSpan)))))
def span_Mul.ok (M : Prims) (a : LSpan) (b : LSpan) : Bool :=
  cond (M.eq a.lo 0 && (M.eq a.hi 0 && true))
    (true)
    (cond (M.eq b.lo 0 && (M.eq b.hi 0 && true))
       (true)
       (cond (span_Wide.ok M a)
          (cond (span_Wide M a)
             (true)
             (cond (span_Wide.ok M b)
                (cond (span_Wide M b)
                   (true)
                   (cond (round_Mul.ok M a.lo b.lo true)
                      (cond (round_Mul.ok M a.lo b.lo false)
                         (cond (round_Mul.ok M a.lo b.hi true)
                            (cond (round_Mul.ok M a.lo b.hi false)
                               (cond (round_Mul.ok M a.hi b.lo true)
                                  (cond (round_Mul.ok M a.hi b.lo false)
                                     (cond (round_Mul.ok M a.hi b.hi true)
                                        (cond (round_Mul.ok M a.hi b.hi false)
                                           (true)
                                           (false))
                                        (false))
                                     (false))
                                  (false))
                               (false))
                            (false))
                         (false))
                      (false)))
                (false)))
          (false)))
def span_Mul.fns (c75 : LSpan → Bool) (c75ok : LSpan → Bool) (c76 : LSpan) (c77 : Int → Nat) (c79 : Nat → Nat → Bool → Nat × Int) (c79ok : Nat → Nat → Bool → Bool) : FuncId → List Value → Option (Bool × Value) := ifId 75 (span_Wide.ph c75 c75ok) <| ifId 76 (span_All.ph c76) <| ifId 77 (math_Inf.ph c77) <| ifId 79 (round_Mul.ph c79 c79ok) <| noFns
theorem span_Mul.fnsOK : PureFns Try.prog (span_Mul.fns (span_Wide M0) (span_Wide.ok M0) (span_All M0) (math_Inf M0) (round_Mul M0) (round_Mul.ok M0)) := ifIdOK span_Wide.phOK <| ifIdOK span_All.phOK <| ifIdOK math_Inf.phOK <| ifIdOK round_Mul.phOK <| noFnsOK
theorem span_Mul.ev (M : Prims) (c75 : LSpan → Bool) (c75ok : LSpan → Bool) (c76 : LSpan) (c77 : Int → Nat) (c79 : Nat → Nat → Bool → Nat × Int) (c79ok : Nat → Nat → Bool → Bool)  (a : LSpan) (b : LSpan) : evP tab M (span_Mul.fns c75 c75ok c76 c77 c79 c79ok) noLoops 300 Try.f40 [a.val, b.val] = span_Mul.k M c75 c75ok c76 c77 c79 c79ok  a b (fun r => some (r.val, [])) := by kernel_rfl
theorem span_Mul.k_eq (M : Prims) (a : LSpan) (b : LSpan) (k : LSpan → R) : span_Mul.ok M a b = true → span_Mul.k M (span_Wide M) (span_Wide.ok M) (span_All M) (math_Inf M) (round_Mul M) (round_Mul.ok M) a b k = k (span_Mul M a b) := by
  unfold span_Mul.ok span_Mul.k span_Mul
  exact kC (fun _ => rfl) (kC (fun _ => rfl) (kL (kC (fun _ => rfl) (kL (kC (fun _ => rfl) (kL (kL (kL (kL (kL (kL (kL (kL (fun _ => rfl))))))))))))))
theorem span_Mul.call (a : LSpan) (b : LSpan) (h : span_Mul.ok M0 a b = true) : PureOK Try.prog 40 [a.val, b.val] ((span_Mul M0 a b).val) :=
  evP_sound (P := Try.prog) mixed tabOK span_Mul.fnsOK Try.func40 rfl (Λ := noLoops) (c := Try.f40.body.getD .skip) rfl (noLoopsOK _) rfl (Nat.zero_le 1) rfl rfl ((span_Mul.ev M0 (span_Wide M0) (span_Wide.ok M0) (span_All M0) (math_Inf M0) (round_Mul M0) (round_Mul.ok M0) a b).trans (span_Mul.k_eq M0 a b _ h))
def span_Mul.ph (c40 : LSpan → LSpan → LSpan) (c40ok : LSpan → LSpan → Bool) : Ph := fun args => match args with
  | [.agg ⟨[.float .f64 a0_0, .float .f64 a0_1]⟩, .agg ⟨[.float .f64 a1_0, .float .f64 a1_1]⟩] => some (c40ok (⟨a0_0, a0_1⟩ : LSpan) (⟨a1_0, a1_1⟩ : LSpan), (c40 (⟨a0_0, a0_1⟩ : LSpan) (⟨a1_0, a1_1⟩ : LSpan)).val)
  | _ => none
theorem span_Mul.phOK : PhOK Try.prog 40 (span_Mul.ph (span_Mul M0) (span_Mul.ok M0)) := ⟨by
  intro args v h
  unfold span_Mul.ph at h
  split at h
  · rename_i a0_0 a0_1 a1_0 a1_1
    simp only [Option.some.injEq, Prod.mk.injEq] at h
    obtain ⟨hok, rfl⟩ := h
    exact ⟨rfl, rfl, span_Mul.call (⟨a0_0, a0_1⟩ : LSpan) (⟨a1_0, a1_1⟩ : LSpan) hok⟩
  · cases h⟩
def vec_Cross.k (_ : Prims) (c40 : LSpan → LSpan → LSpan) (c40ok : LSpan → LSpan → Bool) (c45 : LSpan → LSpan → LSpan) (c45ok : LSpan → LSpan → Bool) (a : LV3) (b : LV3) (k : LV3 → R) : R :=
  let x1 := c40 a.p1 b.p2
  cond (c40ok a.p1 b.p2)
    (let x2 := c40 a.p2 b.p1
     cond (c40ok a.p2 b.p1)
       (cond (c45ok x1 x2)
          (let x4 := c40 a.p2 b.p0
           cond (c40ok a.p2 b.p0)
             (let x5 := c40 a.p0 b.p2
              cond (c40ok a.p0 b.p2)
                (cond (c45ok x4 x5)
                   (let x7 := c40 a.p0 b.p1
                    cond (c40ok a.p0 b.p1)
                      (let x8 := c40 a.p1 b.p0
                       cond (c40ok a.p1 b.p0)
                         (cond (c45ok x7 x8)
                            (k (⟨(c45 x1 x2), (c45 x4 x5), (c45 x7 x8)⟩ : LV3))
                            (none))
                         (none))
                      (none))
                   (none))
                (none))
             (none))
          (none))
       (none))
    (none)
def vec_Cross (M : Prims) (a : LV3) (b : LV3) : LV3 :=
  (⟨(span_Sub M (span_Mul M a.p1 b.p2) (span_Mul M a.p2 b.p1)), (span_Sub M (span_Mul M a.p2 b.p0) (span_Mul M a.p0 b.p2)), (span_Sub M (span_Mul M a.p0 b.p1) (span_Mul M a.p1 b.p0))⟩ : LV3)
def vec_Cross.ok (M : Prims) (a : LV3) (b : LV3) : Bool :=
  cond (span_Mul.ok M a.p1 b.p2)
    (cond (span_Mul.ok M a.p2 b.p1)
       (cond (span_Sub.ok M (span_Mul M a.p1 b.p2) (span_Mul M a.p2 b.p1))
          (cond (span_Mul.ok M a.p2 b.p0)
             (cond (span_Mul.ok M a.p0 b.p2)
                (cond (span_Sub.ok M (span_Mul M a.p2 b.p0) (span_Mul M a.p0 b.p2))
                   (cond (span_Mul.ok M a.p0 b.p1)
                      (cond (span_Mul.ok M a.p1 b.p0)
                         (cond (span_Sub.ok M (span_Mul M a.p0 b.p1) (span_Mul M a.p1 b.p0))
                            (true)
                            (false))
                         (false))
                      (false))
                   (false))
                (false))
             (false))
          (false))
       (false))
    (false)
def vec_Cross.fns (c40 : LSpan → LSpan → LSpan) (c40ok : LSpan → LSpan → Bool) (c45 : LSpan → LSpan → LSpan) (c45ok : LSpan → LSpan → Bool) : FuncId → List Value → Option (Bool × Value) := ifId 40 (span_Mul.ph c40 c40ok) <| ifId 45 (span_Sub.ph c45 c45ok) <| noFns
theorem vec_Cross.fnsOK : PureFns Try.prog (vec_Cross.fns (span_Mul M0) (span_Mul.ok M0) (span_Sub M0) (span_Sub.ok M0)) := ifIdOK span_Mul.phOK <| ifIdOK span_Sub.phOK <| noFnsOK
theorem vec_Cross.ev (M : Prims) (c40 : LSpan → LSpan → LSpan) (c40ok : LSpan → LSpan → Bool) (c45 : LSpan → LSpan → LSpan) (c45ok : LSpan → LSpan → Bool)  (a : LV3) (b : LV3) : evP tab M (vec_Cross.fns c40 c40ok c45 c45ok) noLoops 300 Try.f70 [a.val, b.val] = vec_Cross.k M c40 c40ok c45 c45ok  a b (fun r => some (r.val, [])) := by kernel_rfl
theorem vec_Cross.k_eq (M : Prims) (a : LV3) (b : LV3) (k : LV3 → R) : vec_Cross.ok M a b = true → vec_Cross.k M (span_Mul M) (span_Mul.ok M) (span_Sub M) (span_Sub.ok M) a b k = k (vec_Cross M a b) := by
  unfold vec_Cross.ok vec_Cross.k vec_Cross
  exact kL (kL (kL (kL (kL (kL (kL (kL (kL (fun _ => rfl)))))))))
theorem vec_Cross.call (a : LV3) (b : LV3) (h : vec_Cross.ok M0 a b = true) : PureOK Try.prog 70 [a.val, b.val] ((vec_Cross M0 a b).val) :=
  evP_sound (P := Try.prog) mixed tabOK vec_Cross.fnsOK Try.func70 rfl (Λ := noLoops) (c := Try.f70.body.getD .skip) rfl (noLoopsOK _) rfl (Nat.zero_le 1) rfl rfl ((vec_Cross.ev M0 (span_Mul M0) (span_Mul.ok M0) (span_Sub M0) (span_Sub.ok M0) a b).trans (vec_Cross.k_eq M0 a b _ h))
def vec_Cross.ph (c70 : LV3 → LV3 → LV3) (c70ok : LV3 → LV3 → Bool) : Ph := fun args => match args with
  | [.agg ⟨[.float .f64 a0_0, .float .f64 a0_1, .float .f64 a0_2, .float .f64 a0_3, .float .f64 a0_4, .float .f64 a0_5]⟩, .agg ⟨[.float .f64 a1_0, .float .f64 a1_1, .float .f64 a1_2, .float .f64 a1_3, .float .f64 a1_4, .float .f64 a1_5]⟩] => some (c70ok (⟨⟨a0_0, a0_1⟩, ⟨a0_2, a0_3⟩, ⟨a0_4, a0_5⟩⟩ : LV3) (⟨⟨a1_0, a1_1⟩, ⟨a1_2, a1_3⟩, ⟨a1_4, a1_5⟩⟩ : LV3), (c70 (⟨⟨a0_0, a0_1⟩, ⟨a0_2, a0_3⟩, ⟨a0_4, a0_5⟩⟩ : LV3) (⟨⟨a1_0, a1_1⟩, ⟨a1_2, a1_3⟩, ⟨a1_4, a1_5⟩⟩ : LV3)).val)
  | _ => none
theorem vec_Cross.phOK : PhOK Try.prog 70 (vec_Cross.ph (vec_Cross M0) (vec_Cross.ok M0)) := ⟨by
  intro args v h
  unfold vec_Cross.ph at h
  split at h
  · rename_i a0_0 a0_1 a0_2 a0_3 a0_4 a0_5 a1_0 a1_1 a1_2 a1_3 a1_4 a1_5
    simp only [Option.some.injEq, Prod.mk.injEq] at h
    obtain ⟨hok, rfl⟩ := h
    exact ⟨rfl, rfl, vec_Cross.call (⟨⟨a0_0, a0_1⟩, ⟨a0_2, a0_3⟩, ⟨a0_4, a0_5⟩⟩ : LV3) (⟨⟨a1_0, a1_1⟩, ⟨a1_2, a1_3⟩, ⟨a1_4, a1_5⟩⟩ : LV3) hok⟩
  · cases h⟩
def vec_each_Mul.k (_ : Prims) (c40 : LSpan → LSpan → LSpan) (c40ok : LSpan → LSpan → Bool) (a : LV3) (b : LV3) (k : LV3 → R) : R :=
  cond (c40ok a.p0 b.p0)
    (cond (c40ok a.p1 b.p1)
       (cond (c40ok a.p2 b.p2)
          (k (⟨(c40 a.p0 b.p0), (c40 a.p1 b.p1), (c40 a.p2 b.p2)⟩ : LV3))
          (none))
       (none))
    (none)
def vec_each_Mul (M : Prims) (a : LV3) (b : LV3) : LV3 :=
  (⟨(span_Mul M a.p0 b.p0), (span_Mul M a.p1 b.p1), (span_Mul M a.p2 b.p2)⟩ : LV3)
def vec_each_Mul.ok (M : Prims) (a : LV3) (b : LV3) : Bool :=
  cond (span_Mul.ok M a.p0 b.p0)
    (cond (span_Mul.ok M a.p1 b.p1)
       (cond (span_Mul.ok M a.p2 b.p2)
          (true)
          (false))
       (false))
    (false)
def vec_each_Mul.fns (c40 : LSpan → LSpan → LSpan) (c40ok : LSpan → LSpan → Bool) : FuncId → List Value → Option (Bool × Value) := ifId 40 (span_Mul.ph c40 c40ok) <| noFns
theorem vec_each_Mul.fnsOK : PureFns Try.prog (vec_each_Mul.fns (span_Mul M0) (span_Mul.ok M0)) := ifIdOK span_Mul.phOK <| noFnsOK
theorem vec_each_Mul.ev (M : Prims) (c40 : LSpan → LSpan → LSpan) (c40ok : LSpan → LSpan → Bool)  (a : LV3) (b : LV3) : evP tab M (vec_each_Mul.fns c40 c40ok) noLoops 300 Try.f86 [a.val, b.val, .func (.func 40) ⟨[]⟩ ⟨[]⟩] = vec_each_Mul.k M c40 c40ok  a b (fun r => some (r.val, [])) := by kernel_rfl
theorem vec_each_Mul.k_eq (M : Prims) (a : LV3) (b : LV3) (k : LV3 → R) : vec_each_Mul.ok M a b = true → vec_each_Mul.k M (span_Mul M) (span_Mul.ok M) a b k = k (vec_each_Mul M a b) := by
  unfold vec_each_Mul.ok vec_each_Mul.k vec_each_Mul
  exact kL (kL (kL (fun _ => rfl)))
theorem vec_each_Mul.call (a : LV3) (b : LV3) (h : vec_each_Mul.ok M0 a b = true) : PureOK Try.prog 86 [a.val, b.val, .func (.func 40) ⟨[]⟩ ⟨[]⟩] ((vec_each_Mul M0 a b).val) :=
  evP_sound (P := Try.prog) mixed tabOK vec_each_Mul.fnsOK Try.func86 rfl (Λ := noLoops) (c := Try.f86.body.getD .skip) rfl (noLoopsOK _) rfl (Nat.zero_le 1) rfl rfl ((vec_each_Mul.ev M0 (span_Mul M0) (span_Mul.ok M0) a b).trans (vec_each_Mul.k_eq M0 a b _ h))
def vec_each_Mul.ph (c86_40 : LV3 → LV3 → LV3) (c86_40ok : LV3 → LV3 → Bool) : Ph := fun args => match args with
  | [.agg ⟨[.float .f64 a0_0, .float .f64 a0_1, .float .f64 a0_2, .float .f64 a0_3, .float .f64 a0_4, .float .f64 a0_5]⟩, .agg ⟨[.float .f64 a1_0, .float .f64 a1_1, .float .f64 a1_2, .float .f64 a1_3, .float .f64 a1_4, .float .f64 a1_5]⟩, .func (.func 40) ⟨[]⟩ ⟨[]⟩] => some (c86_40ok (⟨⟨a0_0, a0_1⟩, ⟨a0_2, a0_3⟩, ⟨a0_4, a0_5⟩⟩ : LV3) (⟨⟨a1_0, a1_1⟩, ⟨a1_2, a1_3⟩, ⟨a1_4, a1_5⟩⟩ : LV3), (c86_40 (⟨⟨a0_0, a0_1⟩, ⟨a0_2, a0_3⟩, ⟨a0_4, a0_5⟩⟩ : LV3) (⟨⟨a1_0, a1_1⟩, ⟨a1_2, a1_3⟩, ⟨a1_4, a1_5⟩⟩ : LV3)).val)
  | _ => none
theorem vec_each_Mul.phOK : PhOK Try.prog 86 (vec_each_Mul.ph (vec_each_Mul M0) (vec_each_Mul.ok M0)) := ⟨by
  intro args v h
  unfold vec_each_Mul.ph at h
  split at h
  · rename_i a0_0 a0_1 a0_2 a0_3 a0_4 a0_5 a1_0 a1_1 a1_2 a1_3 a1_4 a1_5
    simp only [Option.some.injEq, Prod.mk.injEq] at h
    obtain ⟨hok, rfl⟩ := h
    exact ⟨rfl, rfl, vec_each_Mul.call (⟨⟨a0_0, a0_1⟩, ⟨a0_2, a0_3⟩, ⟨a0_4, a0_5⟩⟩ : LV3) (⟨⟨a1_0, a1_1⟩, ⟨a1_2, a1_3⟩, ⟨a1_4, a1_5⟩⟩ : LV3) hok⟩
  · cases h⟩
def vec_Times.k (_ : Prims) (c86_40 : LV3 → LV3 → LV3) (c86_40ok : LV3 → LV3 → Bool) (a : LV3) (b : LV3) (k : LV3 → R) : R :=
  cond (c86_40ok a b)
    (k (c86_40 a b))
    (none)
def vec_Times (M : Prims) (a : LV3) (b : LV3) : LV3 :=
  (vec_each_Mul M a b)
def vec_Times.ok (M : Prims) (a : LV3) (b : LV3) : Bool :=
  cond (vec_each_Mul.ok M a b)
    (true)
    (false)
def vec_Times.fns (c86_40 : LV3 → LV3 → LV3) (c86_40ok : LV3 → LV3 → Bool) : FuncId → List Value → Option (Bool × Value) := ifId 86 (vec_each_Mul.ph c86_40 c86_40ok) <| noFns
theorem vec_Times.fnsOK : PureFns Try.prog (vec_Times.fns (vec_each_Mul M0) (vec_each_Mul.ok M0)) := ifIdOK vec_each_Mul.phOK <| noFnsOK
theorem vec_Times.ev (M : Prims) (c86_40 : LV3 → LV3 → LV3) (c86_40ok : LV3 → LV3 → Bool)  (a : LV3) (b : LV3) : evP tab M (vec_Times.fns c86_40 c86_40ok) noLoops 300 Try.f87 [a.val, b.val] = vec_Times.k M c86_40 c86_40ok  a b (fun r => some (r.val, [])) := by kernel_rfl
theorem vec_Times.k_eq (M : Prims) (a : LV3) (b : LV3) (k : LV3 → R) : vec_Times.ok M a b = true → vec_Times.k M (vec_each_Mul M) (vec_each_Mul.ok M) a b k = k (vec_Times M a b) := by
  unfold vec_Times.ok vec_Times.k vec_Times
  exact kL (fun _ => rfl)
theorem vec_Times.call (a : LV3) (b : LV3) (h : vec_Times.ok M0 a b = true) : PureOK Try.prog 87 [a.val, b.val] ((vec_Times M0 a b).val) :=
  evP_sound (P := Try.prog) mixed tabOK vec_Times.fnsOK Try.func87 rfl (Λ := noLoops) (c := Try.f87.body.getD .skip) rfl (noLoopsOK _) rfl (Nat.zero_le 1) rfl rfl ((vec_Times.ev M0 (vec_each_Mul M0) (vec_each_Mul.ok M0) a b).trans (vec_Times.k_eq M0 a b _ h))
def vec_Times.ph (c87 : LV3 → LV3 → LV3) (c87ok : LV3 → LV3 → Bool) : Ph := fun args => match args with
  | [.agg ⟨[.float .f64 a0_0, .float .f64 a0_1, .float .f64 a0_2, .float .f64 a0_3, .float .f64 a0_4, .float .f64 a0_5]⟩, .agg ⟨[.float .f64 a1_0, .float .f64 a1_1, .float .f64 a1_2, .float .f64 a1_3, .float .f64 a1_4, .float .f64 a1_5]⟩] => some (c87ok (⟨⟨a0_0, a0_1⟩, ⟨a0_2, a0_3⟩, ⟨a0_4, a0_5⟩⟩ : LV3) (⟨⟨a1_0, a1_1⟩, ⟨a1_2, a1_3⟩, ⟨a1_4, a1_5⟩⟩ : LV3), (c87 (⟨⟨a0_0, a0_1⟩, ⟨a0_2, a0_3⟩, ⟨a0_4, a0_5⟩⟩ : LV3) (⟨⟨a1_0, a1_1⟩, ⟨a1_2, a1_3⟩, ⟨a1_4, a1_5⟩⟩ : LV3)).val)
  | _ => none
theorem vec_Times.phOK : PhOK Try.prog 87 (vec_Times.ph (vec_Times M0) (vec_Times.ok M0)) := ⟨by
  intro args v h
  unfold vec_Times.ph at h
  split at h
  · rename_i a0_0 a0_1 a0_2 a0_3 a0_4 a0_5 a1_0 a1_1 a1_2 a1_3 a1_4 a1_5
    simp only [Option.some.injEq, Prod.mk.injEq] at h
    obtain ⟨hok, rfl⟩ := h
    exact ⟨rfl, rfl, vec_Times.call (⟨⟨a0_0, a0_1⟩, ⟨a0_2, a0_3⟩, ⟨a0_4, a0_5⟩⟩ : LV3) (⟨⟨a1_0, a1_1⟩, ⟨a1_2, a1_3⟩, ⟨a1_4, a1_5⟩⟩ : LV3) hok⟩
  · cases h⟩
def vec_Dot.k (_ : Prims) (c46 : LSpan → LSpan → LSpan) (c46ok : LSpan → LSpan → Bool) (c87 : LV3 → LV3 → LV3) (c87ok : LV3 → LV3 → Bool) (a : LV3) (b : LV3) (k : LSpan → R) : R :=
  let x1 := c87 a b
  cond (c87ok a b)
    (let x2 := c46 x1.p0 x1.p1
     cond (c46ok x1.p0 x1.p1)
       (cond (c46ok x2 x1.p2)
          (k (c46 x2 x1.p2))
          (none))
       (none))
    (none)
def vec_Dot (M : Prims) (a : LV3) (b : LV3) : LSpan :=
  let x1 := vec_Times M a b
  (span_Add M (span_Add M x1.p0 x1.p1) x1.p2)
def vec_Dot.ok (M : Prims) (a : LV3) (b : LV3) : Bool :=
  let x1 := vec_Times M a b
  cond (vec_Times.ok M a b)
    (cond (span_Add.ok M x1.p0 x1.p1)
       (cond (span_Add.ok M (span_Add M x1.p0 x1.p1) x1.p2)
          (true)
          (false))
       (false))
    (false)
def vec_Dot.fns (c46 : LSpan → LSpan → LSpan) (c46ok : LSpan → LSpan → Bool) (c87 : LV3 → LV3 → LV3) (c87ok : LV3 → LV3 → Bool) : FuncId → List Value → Option (Bool × Value) := ifId 46 (span_Add.ph c46 c46ok) <| ifId 87 (vec_Times.ph c87 c87ok) <| noFns
theorem vec_Dot.fnsOK : PureFns Try.prog (vec_Dot.fns (span_Add M0) (span_Add.ok M0) (vec_Times M0) (vec_Times.ok M0)) := ifIdOK span_Add.phOK <| ifIdOK vec_Times.phOK <| noFnsOK
theorem vec_Dot.ev (M : Prims) (c46 : LSpan → LSpan → LSpan) (c46ok : LSpan → LSpan → Bool) (c87 : LV3 → LV3 → LV3) (c87ok : LV3 → LV3 → Bool)  (a : LV3) (b : LV3) : evP tab M (vec_Dot.fns c46 c46ok c87 c87ok) noLoops 300 Try.f61 [a.val, b.val] = vec_Dot.k M c46 c46ok c87 c87ok  a b (fun r => some (r.val, [])) := by kernel_rfl
theorem vec_Dot.k_eq (M : Prims) (a : LV3) (b : LV3) (k : LSpan → R) : vec_Dot.ok M a b = true → vec_Dot.k M (span_Add M) (span_Add.ok M) (vec_Times M) (vec_Times.ok M) a b k = k (vec_Dot M a b) := by
  unfold vec_Dot.ok vec_Dot.k vec_Dot
  exact kL (kL (kL (fun _ => rfl)))
theorem vec_Dot.call (a : LV3) (b : LV3) (h : vec_Dot.ok M0 a b = true) : PureOK Try.prog 61 [a.val, b.val] ((vec_Dot M0 a b).val) :=
  evP_sound (P := Try.prog) mixed tabOK vec_Dot.fnsOK Try.func61 rfl (Λ := noLoops) (c := Try.f61.body.getD .skip) rfl (noLoopsOK _) rfl (Nat.zero_le 1) rfl rfl ((vec_Dot.ev M0 (span_Add M0) (span_Add.ok M0) (vec_Times M0) (vec_Times.ok M0) a b).trans (vec_Dot.k_eq M0 a b _ h))
def vec_Dot.ph (c61 : LV3 → LV3 → LSpan) (c61ok : LV3 → LV3 → Bool) : Ph := fun args => match args with
  | [.agg ⟨[.float .f64 a0_0, .float .f64 a0_1, .float .f64 a0_2, .float .f64 a0_3, .float .f64 a0_4, .float .f64 a0_5]⟩, .agg ⟨[.float .f64 a1_0, .float .f64 a1_1, .float .f64 a1_2, .float .f64 a1_3, .float .f64 a1_4, .float .f64 a1_5]⟩] => some (c61ok (⟨⟨a0_0, a0_1⟩, ⟨a0_2, a0_3⟩, ⟨a0_4, a0_5⟩⟩ : LV3) (⟨⟨a1_0, a1_1⟩, ⟨a1_2, a1_3⟩, ⟨a1_4, a1_5⟩⟩ : LV3), (c61 (⟨⟨a0_0, a0_1⟩, ⟨a0_2, a0_3⟩, ⟨a0_4, a0_5⟩⟩ : LV3) (⟨⟨a1_0, a1_1⟩, ⟨a1_2, a1_3⟩, ⟨a1_4, a1_5⟩⟩ : LV3)).val)
  | _ => none
theorem vec_Dot.phOK : PhOK Try.prog 61 (vec_Dot.ph (vec_Dot M0) (vec_Dot.ok M0)) := ⟨by
  intro args v h
  unfold vec_Dot.ph at h
  split at h
  · rename_i a0_0 a0_1 a0_2 a0_3 a0_4 a0_5 a1_0 a1_1 a1_2 a1_3 a1_4 a1_5
    simp only [Option.some.injEq, Prod.mk.injEq] at h
    obtain ⟨hok, rfl⟩ := h
    exact ⟨rfl, rfl, vec_Dot.call (⟨⟨a0_0, a0_1⟩, ⟨a0_2, a0_3⟩, ⟨a0_4, a0_5⟩⟩ : LV3) (⟨⟨a1_0, a1_1⟩, ⟨a1_2, a1_3⟩, ⟨a1_4, a1_5⟩⟩ : LV3) hok⟩
  · cases h⟩
def span_Positive.k (M : Prims) (a : LSpan) (k : Int → R) : R :=
  cond (M.gt a.lo 0)
    (k 1)
    (cond (M.le a.hi 0)
       (k 0)
       (k 2))
def span_Positive (M : Prims) (a : LSpan) : Int :=
  cond (M.gt a.lo 0)
    (1)
    (cond (M.le a.hi 0)
       (0)
       (2))
def span_Positive.fns : FuncId → List Value → Option (Bool × Value) := noFns
theorem span_Positive.fnsOK : PureFns Try.prog span_Positive.fns := noFnsOK
theorem span_Positive.ev (M : Prims)   (a : LSpan) : evP tab M span_Positive.fns noLoops 300 Try.f38 [a.val] = span_Positive.k M   a (fun r => some ((.int .i64 r), [])) := by kernel_rfl
theorem span_Positive.k_eq (M : Prims) (a : LSpan) (k : Int → R) : span_Positive.k M  a k = k (span_Positive M a) := by
  unfold span_Positive.k span_Positive
  exact pC rfl (pC rfl rfl)
theorem span_Positive.call (a : LSpan) : PureOK Try.prog 38 [a.val] (.int .i64 (span_Positive M0 a)) :=
  evP_sound (P := Try.prog) mixed tabOK span_Positive.fnsOK Try.func38 rfl (Λ := noLoops) (c := Try.f38.body.getD .skip) rfl (noLoopsOK _) rfl (Nat.zero_le 1) rfl rfl ((span_Positive.ev M0  a).trans (span_Positive.k_eq M0 a _))
def span_Positive.ph (c38 : LSpan → Int) : Ph := fun args => match args with
  | [.agg ⟨[.float .f64 a0_0, .float .f64 a0_1]⟩] => some (true, (.int .i64 (c38 (⟨a0_0, a0_1⟩ : LSpan))))
  | _ => none
theorem span_Positive.phOK : PhOK Try.prog 38 (span_Positive.ph (span_Positive M0)) := ⟨by
  intro args v h
  unfold span_Positive.ph at h
  split at h
  · rename_i a0_0 a0_1
    simp only [Option.some.injEq, Prod.mk.injEq, true_and] at h
    subst h
    exact ⟨rfl, rfl, span_Positive.call (⟨a0_0, a0_1⟩ : LSpan)⟩
  · cases h⟩
def shape_side.k (M : Prims) (c38 : LSpan → Int) (c60 : LSpan → LSpan) (d : LSpan) (k : Nat × Int → R) : R :=
  cond (((c38 d) : Int) == 1)
    (k (4607182418800017408, 1))
    (cond (((c38 (c60 d)) : Int) == 1)
       (k (13830554455654793216, 1))
       (cond (M.eq d.lo 0 && (M.eq d.hi 0 && true))
          (k (0, 0))
          (k (0, 2))))
def shape_side (M : Prims) (d : LSpan) : Nat × Int :=
  cond (((span_Positive M d) : Int) == 1)
    ((4607182418800017408, 1))
    (cond (((span_Positive M (span_Neg M d)) : Int) == 1)
       ((13830554455654793216, 1))
       (cond (M.eq d.lo 0 && (M.eq d.hi 0 && true))
          ((0, 0))
          ((0, 2))))
def shape_side.fns (c38 : LSpan → Int) (c60 : LSpan → LSpan) : FuncId → List Value → Option (Bool × Value) := ifId 38 (span_Positive.ph c38) <| ifId 60 (span_Neg.ph c60) <| noFns
theorem shape_side.fnsOK : PureFns Try.prog (shape_side.fns (span_Positive M0) (span_Neg M0)) := ifIdOK span_Positive.phOK <| ifIdOK span_Neg.phOK <| noFnsOK
theorem shape_side.ev (M : Prims) (c38 : LSpan → Int) (c60 : LSpan → LSpan)  (d : LSpan) : evP tab M (shape_side.fns c38 c60) noLoops 300 Try.f71 [d.val] = shape_side.k M c38 c60  d (fun r => some (.tuple ⟨[(.float .f64 r.1), (.int .i64 r.2)]⟩, [])) := by kernel_rfl
theorem shape_side.k_eq (M : Prims) (d : LSpan) (k : Nat × Int → R) : shape_side.k M (span_Positive M) (span_Neg M) d k = k (shape_side M d) := by
  unfold shape_side.k shape_side
  exact pC rfl (pC rfl (pC rfl rfl))
theorem shape_side.call (d : LSpan) : PureOK Try.prog 71 [d.val] (.tuple ⟨[(.float .f64 ((shape_side M0 d).1)), (.int .i64 ((shape_side M0 d).2))]⟩) :=
  evP_sound (P := Try.prog) mixed tabOK shape_side.fnsOK Try.func71 rfl (Λ := noLoops) (c := Try.f71.body.getD .skip) rfl (noLoopsOK _) rfl (Nat.zero_le 1) rfl rfl ((shape_side.ev M0 (span_Positive M0) (span_Neg M0) d).trans (shape_side.k_eq M0 d _))
def shape_side.ph (c71 : LSpan → Nat × Int) : Ph := fun args => match args with
  | [.agg ⟨[.float .f64 a0_0, .float .f64 a0_1]⟩] => some (true, .tuple ⟨[(.float .f64 ((c71 (⟨a0_0, a0_1⟩ : LSpan)).1)), (.int .i64 ((c71 (⟨a0_0, a0_1⟩ : LSpan)).2))]⟩)
  | _ => none
theorem shape_side.phOK : PhOK Try.prog 71 (shape_side.ph (shape_side M0)) := ⟨by
  intro args v h
  unfold shape_side.ph at h
  split at h
  · rename_i a0_0 a0_1
    simp only [Option.some.injEq, Prod.mk.injEq, true_and] at h
    subst h
    exact ⟨rfl, rfl, shape_side.call (⟨a0_0, a0_1⟩ : LSpan)⟩
  · cases h⟩
def span_Of.k (M : Prims) (c76 : LSpan) (c80 : Nat → Bool) (c80ok : Nat → Bool) (x : Nat) (k : LSpan → R) : R :=
  cond (c80ok x)
    (cond (!(c80 x))
       (k c76)
       (k (⟨(M.add x 0), (M.add x 0)⟩ : LSpan)))
    (none)
def span_Of (M : Prims) (x : Nat) : LSpan :=
  cond (!(round_Number M x))
    ((span_All M))
    ((⟨(M.add x 0), (M.add x 0)⟩ : LSpan))
def span_Of.ok (M : Prims) (x : Nat) : Bool :=
  cond (round_Number.ok M x)
    (true)
    (false)
def span_Of.fns (c76 : LSpan) (c80 : Nat → Bool) (c80ok : Nat → Bool) : FuncId → List Value → Option (Bool × Value) := ifId 76 (span_All.ph c76) <| ifId 80 (round_Number.ph c80 c80ok) <| noFns
theorem span_Of.fnsOK : PureFns Try.prog (span_Of.fns (span_All M0) (round_Number M0) (round_Number.ok M0)) := ifIdOK span_All.phOK <| ifIdOK round_Number.phOK <| noFnsOK
theorem span_Of.ev (M : Prims) (c76 : LSpan) (c80 : Nat → Bool) (c80ok : Nat → Bool)  (x : Nat) : evP tab M (span_Of.fns c76 c80 c80ok) noLoops 300 Try.f41 [(.float .f64 x)] = span_Of.k M c76 c80 c80ok  x (fun r => some (r.val, [])) := by kernel_rfl
theorem span_Of.k_eq (M : Prims) (x : Nat) (k : LSpan → R) : span_Of.ok M x = true → span_Of.k M (span_All M) (round_Number M) (round_Number.ok M) x k = k (span_Of M x) := by
  unfold span_Of.ok span_Of.k span_Of
  exact kL (fun _ => pC rfl rfl)
theorem span_Of.call (x : Nat) (h : span_Of.ok M0 x = true) : PureOK Try.prog 41 [(.float .f64 x)] ((span_Of M0 x).val) :=
  evP_sound (P := Try.prog) mixed tabOK span_Of.fnsOK Try.func41 rfl (Λ := noLoops) (c := Try.f41.body.getD .skip) rfl (noLoopsOK _) rfl (Nat.zero_le 1) rfl rfl ((span_Of.ev M0 (span_All M0) (round_Number M0) (round_Number.ok M0) x).trans (span_Of.k_eq M0 x _ h))
def span_Of.ph (c41 : Nat → LSpan) (c41ok : Nat → Bool) : Ph := fun args => match args with
  | [.float .f64 a0_] => some (c41ok a0_, (c41 a0_).val)
  | _ => none
theorem span_Of.phOK : PhOK Try.prog 41 (span_Of.ph (span_Of M0) (span_Of.ok M0)) := ⟨by
  intro args v h
  unfold span_Of.ph at h
  split at h
  · rename_i a0_
    simp only [Option.some.injEq, Prod.mk.injEq] at h
    obtain ⟨hok, rfl⟩ := h
    exact ⟨rfl, rfl, span_Of.call a0_ hok⟩
  · cases h⟩
def span_Less.k (M : Prims) (a : LSpan) (b : LSpan) (k : Int → R) : R :=
  cond (M.lt a.hi b.lo)
    (k 1)
    (cond (M.ge a.lo b.hi)
       (k 0)
       (k 2))
def span_Less (M : Prims) (a : LSpan) (b : LSpan) : Int :=
  cond (M.lt a.hi b.lo)
    (1)
    (cond (M.ge a.lo b.hi)
       (0)
       (2))
def span_Less.fns : FuncId → List Value → Option (Bool × Value) := noFns
theorem span_Less.fnsOK : PureFns Try.prog span_Less.fns := noFnsOK
theorem span_Less.ev (M : Prims)   (a : LSpan) (b : LSpan) : evP tab M span_Less.fns noLoops 300 Try.f97 [a.val, b.val] = span_Less.k M   a b (fun r => some ((.int .i64 r), [])) := by kernel_rfl
theorem span_Less.k_eq (M : Prims) (a : LSpan) (b : LSpan) (k : Int → R) : span_Less.k M  a b k = k (span_Less M a b) := by
  unfold span_Less.k span_Less
  exact pC rfl (pC rfl rfl)
theorem span_Less.call (a : LSpan) (b : LSpan) : PureOK Try.prog 97 [a.val, b.val] (.int .i64 (span_Less M0 a b)) :=
  evP_sound (P := Try.prog) mixed tabOK span_Less.fnsOK Try.func97 rfl (Λ := noLoops) (c := Try.f97.body.getD .skip) rfl (noLoopsOK _) rfl (Nat.zero_le 1) rfl rfl ((span_Less.ev M0  a b).trans (span_Less.k_eq M0 a b _))
def span_Less.ph (c97 : LSpan → LSpan → Int) : Ph := fun args => match args with
  | [.agg ⟨[.float .f64 a0_0, .float .f64 a0_1]⟩, .agg ⟨[.float .f64 a1_0, .float .f64 a1_1]⟩] => some (true, (.int .i64 (c97 (⟨a0_0, a0_1⟩ : LSpan) (⟨a1_0, a1_1⟩ : LSpan))))
  | _ => none
theorem span_Less.phOK : PhOK Try.prog 97 (span_Less.ph (span_Less M0)) := ⟨by
  intro args v h
  unfold span_Less.ph at h
  split at h
  · rename_i a0_0 a0_1 a1_0 a1_1
    simp only [Option.some.injEq, Prod.mk.injEq, true_and] at h
    subst h
    exact ⟨rfl, rfl, span_Less.call (⟨a0_0, a0_1⟩ : LSpan) (⟨a1_0, a1_1⟩ : LSpan)⟩
  · cases h⟩
def shape_opposite.k (_ : Prims) (a : Int) (k : Int → R) : R :=
  cond ((a : Int) == 1)
    (k 0)
    (cond ((a : Int) == 0)
       (k 1)
       (k a))
def shape_opposite (_ : Prims) (a : Int) : Int :=
  cond ((a : Int) == 1)
    (0)
    (cond ((a : Int) == 0)
       (1)
       (a))
def shape_opposite.fns : FuncId → List Value → Option (Bool × Value) := noFns
theorem shape_opposite.fnsOK : PureFns Try.prog shape_opposite.fns := noFnsOK
theorem shape_opposite.ev (M : Prims)   (a : Int) : evP tab M shape_opposite.fns noLoops 300 Try.f96 [(.int .i64 a)] = shape_opposite.k M   a (fun r => some ((.int .i64 r), [])) := by kernel_rfl
theorem shape_opposite.k_eq (M : Prims) (a : Int) (k : Int → R) : shape_opposite.k M  a k = k (shape_opposite M a) := by
  unfold shape_opposite.k shape_opposite
  exact pC rfl (pC rfl rfl)
theorem shape_opposite.call (a : Int) : PureOK Try.prog 96 [(.int .i64 a)] (.int .i64 (shape_opposite M0 a)) :=
  evP_sound (P := Try.prog) mixed tabOK shape_opposite.fnsOK Try.func96 rfl (Λ := noLoops) (c := Try.f96.body.getD .skip) rfl (noLoopsOK _) rfl (Nat.zero_le 1) rfl rfl ((shape_opposite.ev M0  a).trans (shape_opposite.k_eq M0 a _))
def shape_opposite.ph (c96 : Int → Int) : Ph := fun args => match args with
  | [.int .i64 a0_] => some (true, (.int .i64 (c96 a0_)))
  | _ => none
theorem shape_opposite.phOK : PhOK Try.prog 96 (shape_opposite.ph (shape_opposite M0)) := ⟨by
  intro args v h
  unfold shape_opposite.ph at h
  split at h
  · rename_i a0_
    simp only [Option.some.injEq, Prod.mk.injEq, true_and] at h
    subst h
    exact ⟨rfl, rfl, shape_opposite.call a0_⟩
  · cases h⟩
def shape_atLeast.k (_ : Prims) (c96 : Int → Int) (c97 : LSpan → LSpan → Int) (a : LSpan) (k : Int → R) : R :=
  k (c96 (c97 a (⟨0, 0⟩ : LSpan)))
def shape_atLeast (M : Prims) (a : LSpan) : Int :=
  (shape_opposite M (span_Less M a (⟨0, 0⟩ : LSpan)))
def shape_atLeast.fns (c96 : Int → Int) (c97 : LSpan → LSpan → Int) : FuncId → List Value → Option (Bool × Value) := ifId 96 (shape_opposite.ph c96) <| ifId 97 (span_Less.ph c97) <| noFns
theorem shape_atLeast.fnsOK : PureFns Try.prog (shape_atLeast.fns (shape_opposite M0) (span_Less M0)) := ifIdOK shape_opposite.phOK <| ifIdOK span_Less.phOK <| noFnsOK
theorem shape_atLeast.ev (M : Prims) (c96 : Int → Int) (c97 : LSpan → LSpan → Int)  (a : LSpan) : evP tab M (shape_atLeast.fns c96 c97) noLoops 300 Try.f73 [a.val] = shape_atLeast.k M c96 c97  a (fun r => some ((.int .i64 r), [])) := by kernel_rfl
theorem shape_atLeast.k_eq (M : Prims) (a : LSpan) (k : Int → R) : shape_atLeast.k M (shape_opposite M) (span_Less M) a k = k (shape_atLeast M a) := by
  unfold shape_atLeast.k shape_atLeast
  exact rfl
theorem shape_atLeast.call (a : LSpan) : PureOK Try.prog 73 [a.val] (.int .i64 (shape_atLeast M0 a)) :=
  evP_sound (P := Try.prog) mixed tabOK shape_atLeast.fnsOK Try.func73 rfl (Λ := noLoops) (c := Try.f73.body.getD .skip) rfl (noLoopsOK _) rfl (Nat.zero_le 1) rfl rfl ((shape_atLeast.ev M0 (shape_opposite M0) (span_Less M0) a).trans (shape_atLeast.k_eq M0 a _))
def shape_atLeast.ph (c73 : LSpan → Int) : Ph := fun args => match args with
  | [.agg ⟨[.float .f64 a0_0, .float .f64 a0_1]⟩] => some (true, (.int .i64 (c73 (⟨a0_0, a0_1⟩ : LSpan))))
  | _ => none
theorem shape_atLeast.phOK : PhOK Try.prog 73 (shape_atLeast.ph (shape_atLeast M0)) := ⟨by
  intro args v h
  unfold shape_atLeast.ph at h
  split at h
  · rename_i a0_0 a0_1
    simp only [Option.some.injEq, Prod.mk.injEq, true_and] at h
    subst h
    exact ⟨rfl, rfl, shape_atLeast.call (⟨a0_0, a0_1⟩ : LSpan)⟩
  · cases h⟩
def bits_LeadingZeros64.k (_ : Prims) (c112 : Int → Int) (c112ok : Int → Bool) (x : Int) (k : Int → R) : R :=
  cond (c112ok x)
    (k (IntKind.i64.wrap (64 - (c112 x))))
    (none)
def bits_LeadingZeros64 (M : Prims) (x : Int) : Int :=
  (IntKind.i64.wrap (64 - (bits_Len64 M x)))
def bits_LeadingZeros64.ok (M : Prims) (x : Int) : Bool :=
  cond (bits_Len64.ok M x)
    (true)
    (false)
def bits_LeadingZeros64.fns (c112 : Int → Int) (c112ok : Int → Bool) : FuncId → List Value → Option (Bool × Value) := ifId 112 (bits_Len64.ph c112 c112ok) <| noFns
theorem bits_LeadingZeros64.fnsOK : PureFns Try.prog (bits_LeadingZeros64.fns (bits_Len64 M0) (bits_Len64.ok M0)) := ifIdOK bits_Len64.phOK <| noFnsOK
theorem bits_LeadingZeros64.ev (M : Prims) (c112 : Int → Int) (c112ok : Int → Bool)  (x : Int) : evP tab M (bits_LeadingZeros64.fns c112 c112ok) noLoops 300 Try.f113 [(.int .u64 x)] = bits_LeadingZeros64.k M c112 c112ok  x (fun r => some ((.int .i64 r), [])) := by kernel_rfl
theorem bits_LeadingZeros64.k_eq (M : Prims) (x : Int) (k : Int → R) : bits_LeadingZeros64.ok M x = true → bits_LeadingZeros64.k M (bits_Len64 M) (bits_Len64.ok M) x k = k (bits_LeadingZeros64 M x) := by
  unfold bits_LeadingZeros64.ok bits_LeadingZeros64.k bits_LeadingZeros64
  exact kL (fun _ => rfl)
theorem bits_LeadingZeros64.call (x : Int) (h : bits_LeadingZeros64.ok M0 x = true) : PureOK Try.prog 113 [(.int .u64 x)] (.int .i64 (bits_LeadingZeros64 M0 x)) :=
  evP_sound (P := Try.prog) mixed tabOK bits_LeadingZeros64.fnsOK Try.func113 rfl (Λ := noLoops) (c := Try.f113.body.getD .skip) rfl (noLoopsOK _) rfl (Nat.zero_le 1) rfl rfl ((bits_LeadingZeros64.ev M0 (bits_Len64 M0) (bits_Len64.ok M0) x).trans (bits_LeadingZeros64.k_eq M0 x _ h))
def bits_LeadingZeros64.ph (c113 : Int → Int) (c113ok : Int → Bool) : Ph := fun args => match args with
  | [.int .u64 a0_] => some (c113ok a0_, (.int .i64 (c113 a0_)))
  | _ => none
theorem bits_LeadingZeros64.phOK : PhOK Try.prog 113 (bits_LeadingZeros64.ph (bits_LeadingZeros64 M0) (bits_LeadingZeros64.ok M0)) := ⟨by
  intro args v h
  unfold bits_LeadingZeros64.ph at h
  split at h
  · rename_i a0_
    simp only [Option.some.injEq, Prod.mk.injEq] at h
    obtain ⟨hok, rfl⟩ := h
    exact ⟨rfl, rfl, bits_LeadingZeros64.call a0_ hok⟩
  · cases h⟩
end Go.Lan
