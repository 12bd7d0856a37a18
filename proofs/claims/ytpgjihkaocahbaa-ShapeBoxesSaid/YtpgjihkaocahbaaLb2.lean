import Derived.Test.YtpgjihkaocahbaaLb1
namespace Go.Lan
open Go.Proofs
def math_Copysign.k (M : Prims) (c94 : Int → Nat) (c95 : Nat → Int) (c95ok : Nat → Bool) (f : Nat) (sign : Nat) (k : Nat → R) : R :=
  cond (c95ok f)
    (cond (c95ok sign)
       (k (c94 (M.or .u64 (M.andNot .u64 (c95 f) 9223372036854775808) (M.and .u64 (c95 sign) 9223372036854775808))))
       (none))
    (none)
def math_Copysign (M : Prims) (f : Nat) (sign : Nat) : Nat :=
  (f64from (M.or .u64 (M.andNot .u64 (f64bits f) 9223372036854775808) (M.and .u64 (f64bits sign) 9223372036854775808)))
def math_Copysign.ok (_ : Prims) (f : Nat) (sign : Nat) : Bool :=
  cond (f64bits.ok f)
    (cond (f64bits.ok sign)
       (true)
       (false))
    (false)
def math_Copysign.fns (c94 : Int → Nat) (c95 : Nat → Int) (c95ok : Nat → Bool) : FuncId → List Value → Option (Bool × Value) := ifId 94 (f64from.ph c94) <| ifId 95 (f64bits.ph c95 c95ok) <| noFns
theorem math_Copysign.fnsOK : PureFns Try.prog (math_Copysign.fns f64from f64bits f64bits.ok) := ifIdOK f64from.phOK <| ifIdOK f64bits.phOK <| noFnsOK
theorem math_Copysign.ev (M : Prims) (c94 : Int → Nat) (c95 : Nat → Int) (c95ok : Nat → Bool)  (f : Nat) (sign : Nat) : evP tab M (math_Copysign.fns c94 c95 c95ok) noLoops 300 Try.f124 [(.float .f64 f), (.float .f64 sign)] = math_Copysign.k M c94 c95 c95ok  f sign (fun r => some ((.float .f64 r), [])) := by kernel_rfl
theorem math_Copysign.k_eq (M : Prims) (f : Nat) (sign : Nat) (k : Nat → R) : math_Copysign.ok M f sign = true → math_Copysign.k M f64from f64bits f64bits.ok f sign k = k (math_Copysign M f sign) := by
  unfold math_Copysign.ok math_Copysign.k math_Copysign
  exact kL (kL (fun _ => rfl))
theorem math_Copysign.call (f : Nat) (sign : Nat) (h : math_Copysign.ok M0 f sign = true) : PureOK Try.prog 124 [(.float .f64 f), (.float .f64 sign)] (.float .f64 (math_Copysign M0 f sign)) :=
  evP_sound (P := Try.prog) mixed tabOK math_Copysign.fnsOK Try.func124 rfl (Λ := noLoops) (c := Try.f124.body.getD .skip) rfl (noLoopsOK _) rfl (Nat.zero_le 1) rfl rfl ((math_Copysign.ev M0 f64from f64bits f64bits.ok f sign).trans (math_Copysign.k_eq M0 f sign _ h))
def math_Copysign.ph (c124 : Nat → Nat → Nat) (c124ok : Nat → Nat → Bool) : Ph := fun args => match args with
  | [.float .f64 a0_, .float .f64 a1_] => some (c124ok a0_ a1_, (.float .f64 (c124 a0_ a1_)))
  | _ => none
theorem math_Copysign.phOK : PhOK Try.prog 124 (math_Copysign.ph (math_Copysign M0) (math_Copysign.ok M0)) := ⟨by
  intro args v h
  unfold math_Copysign.ph at h
  split at h
  · rename_i a0_ a1_
    simp only [Option.some.injEq, Prod.mk.injEq] at h
    obtain ⟨hok, rfl⟩ := h
    exact ⟨rfl, rfl, math_Copysign.call a0_ a1_ hok⟩
  · cases h⟩
def math_Inf.k (_ : Prims) (c94 : Int → Nat) (sign : Int) (k : Nat → R) : R :=
  cond (decide (sign ≥ 0))
    (k (c94 9218868437227405312))
    (k (c94 18442240474082181120))
def math_Inf (_ : Prims) (sign : Int) : Nat :=
  cond (decide (sign ≥ 0))
    ((f64from 9218868437227405312))
    ((f64from 18442240474082181120))
def math_Inf.fns (c94 : Int → Nat) : FuncId → List Value → Option (Bool × Value) := ifId 94 (f64from.ph c94) <| noFns
theorem math_Inf.fnsOK : PureFns Try.prog (math_Inf.fns f64from) := ifIdOK f64from.phOK <| noFnsOK
theorem math_Inf.ev (M : Prims) (c94 : Int → Nat)  (sign : Int) : evP tab M (math_Inf.fns c94) noLoops 300 Try.f77 [(.int .i64 sign)] = math_Inf.k M c94  sign (fun r => some ((.float .f64 r), [])) := by kernel_rfl
theorem math_Inf.k_eq (M : Prims) (sign : Int) (k : Nat → R) : math_Inf.k M f64from sign k = k (math_Inf M sign) := by
  unfold math_Inf.k math_Inf
  exact pC rfl rfl
theorem math_Inf.call (sign : Int) : PureOK Try.prog 77 [(.int .i64 sign)] (.float .f64 (math_Inf M0 sign)) :=
  evP_sound (P := Try.prog) mixed tabOK math_Inf.fnsOK Try.func77 rfl (Λ := noLoops) (c := Try.f77.body.getD .skip) rfl (noLoopsOK _) rfl (Nat.zero_le 1) rfl rfl ((math_Inf.ev M0 f64from sign).trans (math_Inf.k_eq M0 sign _))
def math_Inf.ph (c77 : Int → Nat) : Ph := fun args => match args with
  | [.int .i64 a0_] => some (true, (.float .f64 (c77 a0_)))
  | _ => none
theorem math_Inf.phOK : PhOK Try.prog 77 (math_Inf.ph (math_Inf M0)) := ⟨by
  intro args v h
  unfold math_Inf.ph at h
  split at h
  · rename_i a0_
    simp only [Option.some.injEq, Prod.mk.injEq, true_and] at h
    subst h
    exact ⟨rfl, rfl, math_Inf.call a0_⟩
  · cases h⟩
def math_ldexp.k (M : Prims) (c106 : Nat → Bool) (c123 : Nat → Nat × Int) (c123ok : Nat → Bool) (c124 : Nat → Nat → Nat) (c124ok : Nat → Nat → Bool) (c77 : Int → Nat) (c94 : Int → Nat) (c95 : Nat → Int) (c95ok : Nat → Bool) (c98 : Nat → Int → Bool) (c98ok : Nat → Int → Bool) (frac : Nat) (exp : Int) (k : Nat → R) : R :=
  cond (M.eq frac 0)
    (k frac)
    (cond (c98ok frac 0)
       (cond (c98 frac 0)
          (k frac)
          (cond (c106 frac)
             (k frac)
             (let x4 := c123 frac
              cond (c123ok frac)
                (let x6 := c95 x4.1
                 cond (c95ok x4.1)
                   (let x11 := IntKind.i64.wrap ((IntKind.i64.wrap (exp + x4.2)) + (IntKind.i64.wrap ((M.and .i64 (IntKind.i64.wrap (shrV .u64 x6 52)) 2047) - 1023)))
                    cond (decide (x11 < (-1075)))
                      (cond (c124ok 0 x4.1)
                         (k (c124 0 x4.1))
                         (none))
                      (cond (decide (x11 > 1023))
                         (cond (M.lt x4.1 0)
                            (k (c77 (-1)))
                            (k (c77 1)))
                         (cond (decide (x11 < (-1022)))
                            (k (M.mul 4368491638549381120 (c94 (M.or .u64 (M.andNot .u64 x6 9218868437227405312) (shlV .u64 (IntKind.u64.wrap (IntKind.i64.wrap ((IntKind.i64.wrap (x11 + 53)) + 1023))) 52)))))
                            (k (M.mul 4607182418800017408 (c94 (M.or .u64 (M.andNot .u64 x6 9218868437227405312) (shlV .u64 (IntKind.u64.wrap (IntKind.i64.wrap (x11 + 1023))) 52))))))))
                   (none))
                (none))))
       (none))
def math_ldexp (M : Prims) (frac : Nat) (exp : Int) : Nat :=
  cond (M.eq frac 0)
    (frac)
    (cond (math_IsInf M frac 0)
       (frac)
       (cond (math_IsNaN M frac)
          (frac)
          (let x4 := math_normalize M frac
           let x6 := f64bits x4.1
           let x11 := IntKind.i64.wrap ((IntKind.i64.wrap (exp + x4.2)) + (IntKind.i64.wrap ((M.and .i64 (IntKind.i64.wrap (shrV .u64 x6 52)) 2047) - 1023)))
           cond (decide (x11 < (-1075)))
             ((math_Copysign M 0 x4.1))
             (cond (decide (x11 > 1023))
                (cond (M.lt x4.1 0)
                   ((math_Inf M (-1)))
                   ((math_Inf M 1)))
                (cond (decide (x11 < (-1022)))
                   ((M.mul 4368491638549381120 (f64from (M.or .u64 (M.andNot .u64 x6 9218868437227405312) (shlV .u64 (IntKind.u64.wrap (IntKind.i64.wrap ((IntKind.i64.wrap (x11 + 53)) + 1023))) 52)))))
                   ((M.mul 4607182418800017408 (f64from (M.or .u64 (M.andNot .u64 x6 9218868437227405312) (shlV .u64 (IntKind.u64.wrap (IntKind.i64.wrap (x11 + 1023))) 52))))))))))
def math_ldexp.ok (M : Prims) (frac : Nat) (exp : Int) : Bool :=
  cond (M.eq frac 0)
    (true)
    (cond (math_IsInf.ok M frac 0)
       (cond (math_IsInf M frac 0)
          (true)
          (cond (math_IsNaN M frac)
             (true)
             (let x4 := math_normalize M frac
              cond (math_normalize.ok M frac)
                (cond (f64bits.ok x4.1)
                   (cond (decide ((IntKind.i64.wrap ((IntKind.i64.wrap (exp + x4.2)) + (IntKind.i64.wrap ((M.and .i64 (IntKind.i64.wrap (shrV .u64 (f64bits x4.1) 52)) 2047) - 1023)))) < (-1075)))
                      (cond (math_Copysign.ok M 0 x4.1)
                         (true)
                         (false))
                      (true))
                   (false))
                (false))))
       (false))
def math_ldexp.fns (c106 : Nat → Bool) (c123 : Nat → Nat × Int) (c123ok : Nat → Bool) (c124 : Nat → Nat → Nat) (c124ok : Nat → Nat → Bool) (c77 : Int → Nat) (c94 : Int → Nat) (c95 : Nat → Int) (c95ok : Nat → Bool) (c98 : Nat → Int → Bool) (c98ok : Nat → Int → Bool) : FuncId → List Value → Option (Bool × Value) := ifId 106 (math_IsNaN.ph c106) <| ifId 123 (math_normalize.ph c123 c123ok) <| ifId 124 (math_Copysign.ph c124 c124ok) <| ifId 77 (math_Inf.ph c77) <| ifId 94 (f64from.ph c94) <| ifId 95 (f64bits.ph c95 c95ok) <| ifId 98 (math_IsInf.ph c98 c98ok) <| noFns
theorem math_ldexp.fnsOK : PureFns Try.prog (math_ldexp.fns (math_IsNaN M0) (math_normalize M0) (math_normalize.ok M0) (math_Copysign M0) (math_Copysign.ok M0) (math_Inf M0) f64from f64bits f64bits.ok (math_IsInf M0) (math_IsInf.ok M0)) := ifIdOK math_IsNaN.phOK <| ifIdOK math_normalize.phOK <| ifIdOK math_Copysign.phOK <| ifIdOK math_Inf.phOK <| ifIdOK f64from.phOK <| ifIdOK f64bits.phOK <| ifIdOK math_IsInf.phOK <| noFnsOK
theorem math_ldexp.ev (M : Prims) (c106 : Nat → Bool) (c123 : Nat → Nat × Int) (c123ok : Nat → Bool) (c124 : Nat → Nat → Nat) (c124ok : Nat → Nat → Bool) (c77 : Int → Nat) (c94 : Int → Nat) (c95 : Nat → Int) (c95ok : Nat → Bool) (c98 : Nat → Int → Bool) (c98ok : Nat → Int → Bool)  (frac : Nat) (exp : Int) : evP tab M (math_ldexp.fns c106 c123 c123ok c124 c124ok c77 c94 c95 c95ok c98 c98ok) noLoops 300 Try.f122 [(.float .f64 frac), (.int .i64 exp)] = math_ldexp.k M c106 c123 c123ok c124 c124ok c77 c94 c95 c95ok c98 c98ok  frac exp (fun r => some ((.float .f64 r), [])) := by kernel_rfl
theorem math_ldexp.k_eq (M : Prims) (frac : Nat) (exp : Int) (k : Nat → R) : math_ldexp.ok M frac exp = true → math_ldexp.k M (math_IsNaN M) (math_normalize M) (math_normalize.ok M) (math_Copysign M) (math_Copysign.ok M) (math_Inf M) f64from f64bits f64bits.ok (math_IsInf M) (math_IsInf.ok M) frac exp k = k (math_ldexp M frac exp) := by
  unfold math_ldexp.ok math_ldexp.k math_ldexp
  exact kC (fun _ => rfl) (kL (kC (fun _ => rfl) (kC (fun _ => rfl) (kL (kL (kC (kL (fun _ => rfl)) (fun _ => pC (pC rfl rfl) (pC rfl rfl))))))))
theorem math_ldexp.call (frac : Nat) (exp : Int) (h : math_ldexp.ok M0 frac exp = true) : PureOK Try.prog 122 [(.float .f64 frac), (.int .i64 exp)] (.float .f64 (math_ldexp M0 frac exp)) :=
  evP_sound (P := Try.prog) mixed tabOK math_ldexp.fnsOK Try.func122 rfl (Λ := noLoops) (c := Try.f122.body.getD .skip) rfl (noLoopsOK _) rfl (Nat.zero_le 1) rfl rfl ((math_ldexp.ev M0 (math_IsNaN M0) (math_normalize M0) (math_normalize.ok M0) (math_Copysign M0) (math_Copysign.ok M0) (math_Inf M0) f64from f64bits f64bits.ok (math_IsInf M0) (math_IsInf.ok M0) frac exp).trans (math_ldexp.k_eq M0 frac exp _ h))
def math_ldexp.ph (c122 : Nat → Int → Nat) (c122ok : Nat → Int → Bool) : Ph := fun args => match args with
  | [.float .f64 a0_, .int .i64 a1_] => some (c122ok a0_ a1_, (.float .f64 (c122 a0_ a1_)))
  | _ => none
theorem math_ldexp.phOK : PhOK Try.prog 122 (math_ldexp.ph (math_ldexp M0) (math_ldexp.ok M0)) := ⟨by
  intro args v h
  unfold math_ldexp.ph at h
  split at h
  · rename_i a0_ a1_
    simp only [Option.some.injEq, Prod.mk.injEq] at h
    obtain ⟨hok, rfl⟩ := h
    exact ⟨rfl, rfl, math_ldexp.call a0_ a1_ hok⟩
  · cases h⟩
def math_Ldexp.k (_ : Prims) (c122 : Nat → Int → Nat) (c122ok : Nat → Int → Bool) (frac : Nat) (exp : Int) (k : Nat → R) : R :=
  cond (c122ok frac exp)
    (k (c122 frac exp))
    (none)
def math_Ldexp (M : Prims) (frac : Nat) (exp : Int) : Nat :=
  (math_ldexp M frac exp)
def math_Ldexp.ok (M : Prims) (frac : Nat) (exp : Int) : Bool :=
  cond (math_ldexp.ok M frac exp)
    (true)
    (false)
def math_Ldexp.fns (c122 : Nat → Int → Nat) (c122ok : Nat → Int → Bool) : FuncId → List Value → Option (Bool × Value) := ifId 122 (math_ldexp.ph c122 c122ok) <| noFns
theorem math_Ldexp.fnsOK : PureFns Try.prog (math_Ldexp.fns (math_ldexp M0) (math_ldexp.ok M0)) := ifIdOK math_ldexp.phOK <| noFnsOK
theorem math_Ldexp.ev (M : Prims) (c122 : Nat → Int → Nat) (c122ok : Nat → Int → Bool)  (frac : Nat) (exp : Int) : evP tab M (math_Ldexp.fns c122 c122ok) noLoops 300 Try.f115 [(.float .f64 frac), (.int .i64 exp)] = math_Ldexp.k M c122 c122ok  frac exp (fun r => some ((.float .f64 r), [])) := by kernel_rfl
theorem math_Ldexp.k_eq (M : Prims) (frac : Nat) (exp : Int) (k : Nat → R) : math_Ldexp.ok M frac exp = true → math_Ldexp.k M (math_ldexp M) (math_ldexp.ok M) frac exp k = k (math_Ldexp M frac exp) := by
  unfold math_Ldexp.ok math_Ldexp.k math_Ldexp
  exact kL (fun _ => rfl)
theorem math_Ldexp.call (frac : Nat) (exp : Int) (h : math_Ldexp.ok M0 frac exp = true) : PureOK Try.prog 115 [(.float .f64 frac), (.int .i64 exp)] (.float .f64 (math_Ldexp M0 frac exp)) :=
  evP_sound (P := Try.prog) mixed tabOK math_Ldexp.fnsOK Try.func115 rfl (Λ := noLoops) (c := Try.f115.body.getD .skip) rfl (noLoopsOK _) rfl (Nat.zero_le 1) rfl rfl ((math_Ldexp.ev M0 (math_ldexp M0) (math_ldexp.ok M0) frac exp).trans (math_Ldexp.k_eq M0 frac exp _ h))
def math_Ldexp.ph (c115 : Nat → Int → Nat) (c115ok : Nat → Int → Bool) : Ph := fun args => match args with
  | [.float .f64 a0_, .int .i64 a1_] => some (c115ok a0_ a1_, (.float .f64 (c115 a0_ a1_)))
  | _ => none
theorem math_Ldexp.phOK : PhOK Try.prog 115 (math_Ldexp.ph (math_Ldexp M0) (math_Ldexp.ok M0)) := ⟨by
  intro args v h
  unfold math_Ldexp.ph at h
  split at h
  · rename_i a0_ a1_
    simp only [Option.some.injEq, Prod.mk.injEq] at h
    obtain ⟨hok, rfl⟩ := h
    exact ⟨rfl, rfl, math_Ldexp.call a0_ a1_ hok⟩
  · cases h⟩
def round_plain.k (M : Prims) (x : Nat) (k : Nat → R) : R :=
  k (M.add x 0)
def round_plain (M : Prims) (x : Nat) : Nat :=
  (M.add x 0)
def round_plain.fns : FuncId → List Value → Option (Bool × Value) := noFns
theorem round_plain.fnsOK : PureFns Try.prog round_plain.fns := noFnsOK
theorem round_plain.ev (M : Prims)   (x : Nat) : evP tab M round_plain.fns noLoops 300 Try.f116 [(.float .f64 x)] = round_plain.k M   x (fun r => some ((.float .f64 r), [])) := by kernel_rfl
theorem round_plain.k_eq (M : Prims) (x : Nat) (k : Nat → R) : round_plain.k M  x k = k (round_plain M x) := by
  unfold round_plain.k round_plain
  exact rfl
theorem round_plain.call (x : Nat) : PureOK Try.prog 116 [(.float .f64 x)] (.float .f64 (round_plain M0 x)) :=
  evP_sound (P := Try.prog) mixed tabOK round_plain.fnsOK Try.func116 rfl (Λ := noLoops) (c := Try.f116.body.getD .skip) rfl (noLoopsOK _) rfl (Nat.zero_le 1) rfl rfl ((round_plain.ev M0  x).trans (round_plain.k_eq M0 x _))
def round_plain.ph (c116 : Nat → Nat) : Ph := fun args => match args with
  | [.float .f64 a0_] => some (true, (.float .f64 (c116 a0_)))
  | _ => none
theorem round_plain.phOK : PhOK Try.prog 116 (round_plain.ph (round_plain M0)) := ⟨by
  intro args v h
  unfold round_plain.ph at h
  split at h
  · rename_i a0_
    simp only [Option.some.injEq, Prod.mk.injEq, true_and] at h
    subst h
    exact ⟨rfl, rfl, round_plain.call a0_⟩
  · cases h⟩
def round_exact_to.k (M : Prims) (c102 : LExact → Int) (c102ok : LExact → Bool) (c114 : LExact → Int → LExact) (c114ok : LExact → Int → Bool) (c115 : Nat → Int → Nat) (c115ok : Nat → Int → Bool) (c116 : Nat → Nat) (c98 : Nat → Int → Bool) (c98ok : Nat → Int → Bool) (x : LExact) (down : Bool) (k : Nat → R) : R :=
  let x1 := x.neg == down
  cond (c102ok x)
    (let x3 := IntKind.i64.wrap ((c102 x) - 53)
     let x4 := IntKind.i64.wrap ((-1074) - x.e)
     let x5 := if x4 > x3 then x4 else x3
     cond (decide (x5 > 0))
       (let x7 := c114 x x5
        cond (c114ok x x5)
          (cond x7.more
             (cond x1
                (let x9 := M.ofInt (IntKind.u64.wrap (x7.lo + 1))
                 let x10 := c115 x9 x7.e
                 cond (c115ok x9 x7.e)
                   (cond (c98ok x10 0)
                      (cond (c98 x10 0)
                         (cond (!x1)
                            (cond x7.neg
                               (k (c116 (M.neg 9218868437227405311)))
                               (k (c116 9218868437227405311)))
                            (cond x7.neg
                               (k (c116 (M.neg x10)))
                               (k (c116 x10))))
                         (cond x7.neg
                            (k (c116 (M.neg x10)))
                            (k (c116 x10))))
                      (none))
                   (none))
                (let x22 := M.ofInt x7.lo
                 let x23 := c115 x22 x7.e
                 cond (c115ok x22 x7.e)
                   (cond (c98ok x23 0)
                      (cond (c98 x23 0)
                         (cond (!x1)
                            (cond x7.neg
                               (k (c116 (M.neg 9218868437227405311)))
                               (k (c116 9218868437227405311)))
                            (cond x7.neg
                               (k (c116 (M.neg x23)))
                               (k (c116 x23))))
                         (cond x7.neg
                            (k (c116 (M.neg x23)))
                            (k (c116 x23))))
                      (none))
                   (none)))
             (let x35 := M.ofInt x7.lo
              let x36 := c115 x35 x7.e
              cond (c115ok x35 x7.e)
                (cond (c98ok x36 0)
                   (cond (c98 x36 0)
                      (cond (!x1)
                         (cond x7.neg
                            (k (c116 (M.neg 9218868437227405311)))
                            (k (c116 9218868437227405311)))
                         (cond x7.neg
                            (k (c116 (M.neg x36)))
                            (k (c116 x36))))
                      (cond x7.neg
                         (k (c116 (M.neg x36)))
                         (k (c116 x36))))
                   (none))
                (none)))
          (none))
       (cond x.more
          (cond x1
             (let x49 := M.ofInt (IntKind.u64.wrap (x.lo + 1))
              let x50 := c115 x49 x.e
              cond (c115ok x49 x.e)
                (cond (c98ok x50 0)
                   (cond (c98 x50 0)
                      (cond (!x1)
                         (cond x.neg
                            (k (c116 (M.neg 9218868437227405311)))
                            (k (c116 9218868437227405311)))
                         (cond x.neg
                            (k (c116 (M.neg x50)))
                            (k (c116 x50))))
                      (cond x.neg
                         (k (c116 (M.neg x50)))
                         (k (c116 x50))))
                   (none))
                (none))
             (let x62 := M.ofInt x.lo
              let x63 := c115 x62 x.e
              cond (c115ok x62 x.e)
                (cond (c98ok x63 0)
                   (cond (c98 x63 0)
                      (cond (!x1)
                         (cond x.neg
                            (k (c116 (M.neg 9218868437227405311)))
                            (k (c116 9218868437227405311)))
                         (cond x.neg
                            (k (c116 (M.neg x63)))
                            (k (c116 x63))))
                      (cond x.neg
                         (k (c116 (M.neg x63)))
                         (k (c116 x63))))
                   (none))
                (none)))
          (let x75 := M.ofInt x.lo
           let x76 := c115 x75 x.e
           cond (c115ok x75 x.e)
             (cond (c98ok x76 0)
                (cond (c98 x76 0)
                   (cond (!x1)
                      (cond x.neg
                         (k (c116 (M.neg 9218868437227405311)))
                         (k (c116 9218868437227405311)))
                      (cond x.neg
                         (k (c116 (M.neg x76)))
                         (k (c116 x76))))
                   (cond x.neg
                      (k (c116 (M.neg x76)))
                      (k (c116 x76))))
                (none))
             (none))))
    (none)
def round_exact_to (M : Prims) (x : LExact) (down : Bool) : Nat :=
  let x1 := x.neg == down
  let x3 := IntKind.i64.wrap ((round_exact_length M x) - 53)
  let x4 := IntKind.i64.wrap ((-1074) - x.e)
  let x5 := if x4 > x3 then x4 else x3
  cond (decide (x5 > 0))
    (let x7 := round_exact_right M x x5
     cond x7.more
       (cond x1
          (let x10 := math_Ldexp M (M.ofInt (IntKind.u64.wrap (x7.lo + 1))) x7.e
           cond (math_IsInf M x10 0)
             (cond (!x1)
                (cond x7.neg
                   ((round_plain M (M.neg 9218868437227405311)))
                   ((round_plain M 9218868437227405311)))
                (cond x7.neg
                   ((round_plain M (M.neg x10)))
                   ((round_plain M x10))))
             (cond x7.neg
                ((round_plain M (M.neg x10)))
                ((round_plain M x10))))
          (let x23 := math_Ldexp M (M.ofInt x7.lo) x7.e
           cond (math_IsInf M x23 0)
             (cond (!x1)
                (cond x7.neg
                   ((round_plain M (M.neg 9218868437227405311)))
                   ((round_plain M 9218868437227405311)))
                (cond x7.neg
                   ((round_plain M (M.neg x23)))
                   ((round_plain M x23))))
             (cond x7.neg
                ((round_plain M (M.neg x23)))
                ((round_plain M x23)))))
       (let x36 := math_Ldexp M (M.ofInt x7.lo) x7.e
        cond (math_IsInf M x36 0)
          (cond (!x1)
             (cond x7.neg
                ((round_plain M (M.neg 9218868437227405311)))
                ((round_plain M 9218868437227405311)))
             (cond x7.neg
                ((round_plain M (M.neg x36)))
                ((round_plain M x36))))
          (cond x7.neg
             ((round_plain M (M.neg x36)))
             ((round_plain M x36)))))
    (cond x.more
       (cond x1
          (let x50 := math_Ldexp M (M.ofInt (IntKind.u64.wrap (x.lo + 1))) x.e
           cond (math_IsInf M x50 0)
             (cond (!x1)
                (cond x.neg
                   ((round_plain M (M.neg 9218868437227405311)))
                   ((round_plain M 9218868437227405311)))
                (cond x.neg
                   ((round_plain M (M.neg x50)))
                   ((round_plain M x50))))
             (cond x.neg
                ((round_plain M (M.neg x50)))
                ((round_plain M x50))))
          (let x63 := math_Ldexp M (M.ofInt x.lo) x.e
           cond (math_IsInf M x63 0)
             (cond (!x1)
                (cond x.neg
                   ((round_plain M (M.neg 9218868437227405311)))
                   ((round_plain M 9218868437227405311)))
                (cond x.neg
                   ((round_plain M (M.neg x63)))
                   ((round_plain M x63))))
             (cond x.neg
                ((round_plain M (M.neg x63)))
                ((round_plain M x63)))))
       (let x76 := math_Ldexp M (M.ofInt x.lo) x.e
        cond (math_IsInf M x76 0)
          (cond (!x1)
             (cond x.neg
                ((round_plain M (M.neg 9218868437227405311)))
                ((round_plain M 9218868437227405311)))
             (cond x.neg
                ((round_plain M (M.neg x76)))
                ((round_plain M x76))))
          (cond x.neg
             ((round_plain M (M.neg x76)))
             ((round_plain M x76)))))
def round_exact_to.ok (M : Prims) (x : LExact) (down : Bool) : Bool :=
  let x1 := x.neg == down
  cond (round_exact_length.ok M x)
    (let x3 := IntKind.i64.wrap ((round_exact_length M x) - 53)
     let x4 := IntKind.i64.wrap ((-1074) - x.e)
     let x5 := if x4 > x3 then x4 else x3
     cond (decide (x5 > 0))
       (let x7 := round_exact_right M x x5
        cond (round_exact_right.ok M x x5)
          (cond x7.more
             (cond x1
                (let x9 := M.ofInt (IntKind.u64.wrap (x7.lo + 1))
                 cond (math_Ldexp.ok M x9 x7.e)
                   (cond (math_IsInf.ok M (math_Ldexp M x9 x7.e) 0)
                      (true)
                      (false))
                   (false))
                (let x22 := M.ofInt x7.lo
                 cond (math_Ldexp.ok M x22 x7.e)
                   (cond (math_IsInf.ok M (math_Ldexp M x22 x7.e) 0)
                      (true)
                      (false))
                   (false)))
             (let x35 := M.ofInt x7.lo
              cond (math_Ldexp.ok M x35 x7.e)
                (cond (math_IsInf.ok M (math_Ldexp M x35 x7.e) 0)
                   (true)
                   (false))
                (false)))
          (false))
       (cond x.more
          (cond x1
             (let x49 := M.ofInt (IntKind.u64.wrap (x.lo + 1))
              cond (math_Ldexp.ok M x49 x.e)
                (cond (math_IsInf.ok M (math_Ldexp M x49 x.e) 0)
                   (true)
                   (false))
                (false))
             (let x62 := M.ofInt x.lo
              cond (math_Ldexp.ok M x62 x.e)
                (cond (math_IsInf.ok M (math_Ldexp M x62 x.e) 0)
                   (true)
                   (false))
                (false)))
          (let x75 := M.ofInt x.lo
           cond (math_Ldexp.ok M x75 x.e)
             (cond (math_IsInf.ok M (math_Ldexp M x75 x.e) 0)
                (true)
                (false))
             (false))))
    (false)
def round_exact_to.fns (c102 : LExact → Int) (c102ok : LExact → Bool) (c114 : LExact → Int → LExact) (c114ok : LExact → Int → Bool) (c115 : Nat → Int → Nat) (c115ok : Nat → Int → Bool) (c116 : Nat → Nat) (c98 : Nat → Int → Bool) (c98ok : Nat → Int → Bool) : FuncId → List Value → Option (Bool × Value) := ifId 102 (round_exact_length.ph c102 c102ok) <| ifId 114 (round_exact_right.ph c114 c114ok) <| ifId 115 (math_Ldexp.ph c115 c115ok) <| ifId 116 (round_plain.ph c116) <| ifId 98 (math_IsInf.ph c98 c98ok) <| noFns
theorem round_exact_to.fnsOK : PureFns Try.prog (round_exact_to.fns (round_exact_length M0) (round_exact_length.ok M0) (round_exact_right M0) (round_exact_right.ok M0) (math_Ldexp M0) (math_Ldexp.ok M0) (round_plain M0) (math_IsInf M0) (math_IsInf.ok M0)) := ifIdOK round_exact_length.phOK <| ifIdOK round_exact_right.phOK <| ifIdOK math_Ldexp.phOK <| ifIdOK round_plain.phOK <| ifIdOK math_IsInf.phOK <| noFnsOK
theorem round_exact_to.ev (M : Prims) (c102 : LExact → Int) (c102ok : LExact → Bool) (c114 : LExact → Int → LExact) (c114ok : LExact → Int → Bool) (c115 : Nat → Int → Nat) (c115ok : Nat → Int → Bool) (c116 : Nat → Nat) (c98 : Nat → Int → Bool) (c98ok : Nat → Int → Bool)  (x : LExact) (down : Bool) : evP tab M (round_exact_to.fns c102 c102ok c114 c114ok c115 c115ok c116 c98 c98ok) noLoops 300 Try.f104 [x.val, (.bool down)] = round_exact_to.k M c102 c102ok c114 c114ok c115 c115ok c116 c98 c98ok  x down (fun r => some ((.float .f64 r), [])) := by kernel_rfl
theorem round_exact_to.k_eq (M : Prims) (x : LExact) (down : Bool) (k : Nat → R) : round_exact_to.ok M x down = true → round_exact_to.k M (round_exact_length M) (round_exact_length.ok M) (round_exact_right M) (round_exact_right.ok M) (math_Ldexp M) (math_Ldexp.ok M) (round_plain M) (math_IsInf M) (math_IsInf.ok M) x down k = k (round_exact_to M x down) := by
  unfold round_exact_to.ok round_exact_to.k round_exact_to
  exact kL (kC (kL (kC (kC (kL (kL (fun _ => pC (pC (pC rfl rfl) (pC rfl rfl)) (pC rfl rfl)))) (kL (kL (fun _ => pC (pC (pC rfl rfl) (pC rfl rfl)) (pC rfl rfl))))) (kL (kL (fun _ => pC (pC (pC rfl rfl) (pC rfl rfl)) (pC rfl rfl)))))) (kC (kC (kL (kL (fun _ => pC (pC (pC rfl rfl) (pC rfl rfl)) (pC rfl rfl)))) (kL (kL (fun _ => pC (pC (pC rfl rfl) (pC rfl rfl)) (pC rfl rfl))))) (kL (kL (fun _ => pC (pC (pC rfl rfl) (pC rfl rfl)) (pC rfl rfl))))))
theorem round_exact_to.call (x : LExact) (down : Bool) (h : round_exact_to.ok M0 x down = true) : PureOK Try.prog 104 [x.val, (.bool down)] (.float .f64 (round_exact_to M0 x down)) :=
  evP_sound (P := Try.prog) mixed tabOK round_exact_to.fnsOK Try.func104 rfl (Λ := noLoops) (c := Try.f104.body.getD .skip) rfl (noLoopsOK _) rfl (Nat.zero_le 1) rfl rfl ((round_exact_to.ev M0 (round_exact_length M0) (round_exact_length.ok M0) (round_exact_right M0) (round_exact_right.ok M0) (math_Ldexp M0) (math_Ldexp.ok M0) (round_plain M0) (math_IsInf M0) (math_IsInf.ok M0) x down).trans (round_exact_to.k_eq M0 x down _ h))
def round_exact_to.ph (c104 : LExact → Bool → Nat) (c104ok : LExact → Bool → Bool) : Ph := fun args => match args with
  | [.agg ⟨[.bool a0_0, .int .u64 a0_1, .int .u64 a0_2, .int .i64 a0_3, .bool a0_4]⟩, .bool a1_] => some (c104ok (⟨a0_0, a0_1, a0_2, a0_3, a0_4⟩ : LExact) a1_, (.float .f64 (c104 (⟨a0_0, a0_1, a0_2, a0_3, a0_4⟩ : LExact) a1_)))
  | _ => none
theorem round_exact_to.phOK : PhOK Try.prog 104 (round_exact_to.ph (round_exact_to M0) (round_exact_to.ok M0)) := ⟨by
  intro args v h
  unfold round_exact_to.ph at h
  split at h
  · rename_i a0_0 a0_1 a0_2 a0_3 a0_4 a1_
    simp only [Option.some.injEq, Prod.mk.injEq] at h
    obtain ⟨hok, rfl⟩ := h
    exact ⟨rfl, rfl, round_exact_to.call (⟨a0_0, a0_1, a0_2, a0_3, a0_4⟩ : LExact) a1_ hok⟩
  · cases h⟩
def round_Add.k (_ : Prims) (c100 : Nat → LExact) (c100ok : Nat → Bool) (c104 : LExact → Bool → Nat) (c104ok : LExact → Bool → Bool) (c107 : LExact → LExact → LExact) (c107ok : LExact → LExact → Bool) (c99 : Nat → Nat → Bool) (c99ok : Nat → Nat → Bool) (a : Nat) (b : Nat) (down : Bool) (k : Nat × Int → R) : R :=
  cond (c99ok a b)
    (cond (!(c99 a b))
       (k (0, 10))
       (let x3 := c100 a
        cond (c100ok a)
          (let x4 := c100 b
           cond (c100ok b)
             (let x5 := c107 x3 x4
              cond (c107ok x3 x4)
                (cond (c104ok x5 down)
                   (k ((c104 x5 down), 0))
                   (none))
                (none))
             (none))
          (none)))
    (none)
def round_Add (M : Prims) (a : Nat) (b : Nat) (down : Bool) : Nat × Int :=
  cond (!(round_two M a b))
    ((0, 10))
    (((round_exact_to M (round_sum M (round_split M a) (round_split M b)) down), 0))
def round_Add.ok (M : Prims) (a : Nat) (b : Nat) (down : Bool) : Bool :=
  cond (round_two.ok M a b)
    (cond (!(round_two M a b))
       (true)
       (let x3 := round_split M a
        cond (round_split.ok M a)
          (let x4 := round_split M b
           cond (round_split.ok M b)
             (cond (round_sum.ok M x3 x4)
                (cond (round_exact_to.ok M (round_sum M x3 x4) down)
                   (true)
                   (false))
                (false))
             (false))
          (false)))
    (false)
def round_Add.fns (c100 : Nat → LExact) (c100ok : Nat → Bool) (c104 : LExact → Bool → Nat) (c104ok : LExact → Bool → Bool) (c107 : LExact → LExact → LExact) (c107ok : LExact → LExact → Bool) (c99 : Nat → Nat → Bool) (c99ok : Nat → Nat → Bool) : FuncId → List Value → Option (Bool × Value) := ifId 100 (round_split.ph c100 c100ok) <| ifId 104 (round_exact_to.ph c104 c104ok) <| ifId 107 (round_sum.ph c107 c107ok) <| ifId 99 (round_two.ph c99 c99ok) <| noFns
theorem round_Add.fnsOK : PureFns Try.prog (round_Add.fns (round_split M0) (round_split.ok M0) (round_exact_to M0) (round_exact_to.ok M0) (round_sum M0) (round_sum.ok M0) (round_two M0) (round_two.ok M0)) := ifIdOK round_split.phOK <| ifIdOK round_exact_to.phOK <| ifIdOK round_sum.phOK <| ifIdOK round_two.phOK <| noFnsOK
theorem round_Add.ev (M : Prims) (c100 : Nat → LExact) (c100ok : Nat → Bool) (c104 : LExact → Bool → Nat) (c104ok : LExact → Bool → Bool) (c107 : LExact → LExact → LExact) (c107ok : LExact → LExact → Bool) (c99 : Nat → Nat → Bool) (c99ok : Nat → Nat → Bool)  (a : Nat) (b : Nat) (down : Bool) : evP tab M (round_Add.fns c100 c100ok c104 c104ok c107 c107ok c99 c99ok) noLoops 300 Try.f83 [(.float .f64 a), (.float .f64 b), (.bool down)] = round_Add.k M c100 c100ok c104 c104ok c107 c107ok c99 c99ok  a b down (fun r => some (.tuple ⟨[(.float .f64 r.1), (.int .i64 r.2)]⟩, [])) := by kernel_rfl
theorem round_Add.k_eq (M : Prims) (a : Nat) (b : Nat) (down : Bool) (k : Nat × Int → R) : round_Add.ok M a b down = true → round_Add.k M (round_split M) (round_split.ok M) (round_exact_to M) (round_exact_to.ok M) (round_sum M) (round_sum.ok M) (round_two M) (round_two.ok M) a b down k = k (round_Add M a b down) := by
  unfold round_Add.ok round_Add.k round_Add
  exact kL (kC (fun _ => rfl) (kL (kL (kL (kL (fun _ => rfl))))))
theorem round_Add.call (a : Nat) (b : Nat) (down : Bool) (h : round_Add.ok M0 a b down = true) : PureOK Try.prog 83 [(.float .f64 a), (.float .f64 b), (.bool down)] (.tuple ⟨[(.float .f64 ((round_Add M0 a b down).1)), (.int .i64 ((round_Add M0 a b down).2))]⟩) :=
  evP_sound (P := Try.prog) mixed tabOK round_Add.fnsOK Try.func83 rfl (Λ := noLoops) (c := Try.f83.body.getD .skip) rfl (noLoopsOK _) rfl (Nat.zero_le 1) rfl rfl ((round_Add.ev M0 (round_split M0) (round_split.ok M0) (round_exact_to M0) (round_exact_to.ok M0) (round_sum M0) (round_sum.ok M0) (round_two M0) (round_two.ok M0) a b down).trans (round_Add.k_eq M0 a b down _ h))
def round_Add.ph (c83 : Nat → Nat → Bool → Nat × Int) (c83ok : Nat → Nat → Bool → Bool) : Ph := fun args => match args with
  | [.float .f64 a0_, .float .f64 a1_, .bool a2_] => some (c83ok a0_ a1_ a2_, .tuple ⟨[(.float .f64 ((c83 a0_ a1_ a2_).1)), (.int .i64 ((c83 a0_ a1_ a2_).2))]⟩)
  | _ => none
theorem round_Add.phOK : PhOK Try.prog 83 (round_Add.ph (round_Add M0) (round_Add.ok M0)) := ⟨by
  intro args v h
  unfold round_Add.ph at h
  split at h
  · rename_i a0_ a1_ a2_
    simp only [Option.some.injEq, Prod.mk.injEq] at h
    obtain ⟨hok, rfl⟩ := h
    exact ⟨rfl, rfl, round_Add.call a0_ a1_ a2_ hok⟩
  · cases h⟩
def span_low.k (_ : Prims) (c77 : Int → Nat) (x : Nat) (e : Int) (k : Nat → R) : R :=
  cond ((e : Int) != 0)
    (k (c77 (-1)))
    (k x)
def span_low (M : Prims) (x : Nat) (e : Int) : Nat :=
  cond ((e : Int) != 0)
    ((math_Inf M (-1)))
    (x)
def span_low.fns (c77 : Int → Nat) : FuncId → List Value → Option (Bool × Value) := ifId 77 (math_Inf.ph c77) <| noFns
theorem span_low.fnsOK : PureFns Try.prog (span_low.fns (math_Inf M0)) := ifIdOK math_Inf.phOK <| noFnsOK
theorem span_low.ev (M : Prims) (c77 : Int → Nat)  (x : Nat) (e : Int) : evP tab M (span_low.fns c77) noLoops 300 Try.f82 [(.float .f64 x), (.int .i64 e)] = span_low.k M c77  x e (fun r => some ((.float .f64 r), [])) := by kernel_rfl
theorem span_low.k_eq (M : Prims) (x : Nat) (e : Int) (k : Nat → R) : span_low.k M (math_Inf M) x e k = k (span_low M x e) := by
  unfold span_low.k span_low
  exact pC rfl rfl
theorem span_low.call (x : Nat) (e : Int) : PureOK Try.prog 82 [(.float .f64 x), (.int .i64 e)] (.float .f64 (span_low M0 x e)) :=
  evP_sound (P := Try.prog) mixed tabOK span_low.fnsOK Try.func82 rfl (Λ := noLoops) (c := Try.f82.body.getD .skip) rfl (noLoopsOK _) rfl (Nat.zero_le 1) rfl rfl ((span_low.ev M0 (math_Inf M0) x e).trans (span_low.k_eq M0 x e _))
def span_low.ph (c82 : Nat → Int → Nat) : Ph := fun args => match args with
  | [.float .f64 a0_, .int .i64 a1_] => some (true, (.float .f64 (c82 a0_ a1_)))
  | _ => none
theorem span_low.phOK : PhOK Try.prog 82 (span_low.ph (span_low M0)) := ⟨by
  intro args v h
  unfold span_low.ph at h
  split at h
  · rename_i a0_ a1_
    simp only [Option.some.injEq, Prod.mk.injEq, true_and] at h
    subst h
    exact ⟨rfl, rfl, span_low.call a0_ a1_⟩
  · cases h⟩
def span_high.k (_ : Prims) (c77 : Int → Nat) (x : Nat) (e : Int) (k : Nat → R) : R :=
  cond ((e : Int) != 0)
    (k (c77 1))
    (k x)
def span_high (M : Prims) (x : Nat) (e : Int) : Nat :=
  cond ((e : Int) != 0)
    ((math_Inf M 1))
    (x)
def span_high.fns (c77 : Int → Nat) : FuncId → List Value → Option (Bool × Value) := ifId 77 (math_Inf.ph c77) <| noFns
theorem span_high.fnsOK : PureFns Try.prog (span_high.fns (math_Inf M0)) := ifIdOK math_Inf.phOK <| noFnsOK
theorem span_high.ev (M : Prims) (c77 : Int → Nat)  (x : Nat) (e : Int) : evP tab M (span_high.fns c77) noLoops 300 Try.f84 [(.float .f64 x), (.int .i64 e)] = span_high.k M c77  x e (fun r => some ((.float .f64 r), [])) := by kernel_rfl
theorem span_high.k_eq (M : Prims) (x : Nat) (e : Int) (k : Nat → R) : span_high.k M (math_Inf M) x e k = k (span_high M x e) := by
  unfold span_high.k span_high
  exact pC rfl rfl
theorem span_high.call (x : Nat) (e : Int) : PureOK Try.prog 84 [(.float .f64 x), (.int .i64 e)] (.float .f64 (span_high M0 x e)) :=
  evP_sound (P := Try.prog) mixed tabOK span_high.fnsOK Try.func84 rfl (Λ := noLoops) (c := Try.f84.body.getD .skip) rfl (noLoopsOK _) rfl (Nat.zero_le 1) rfl rfl ((span_high.ev M0 (math_Inf M0) x e).trans (span_high.k_eq M0 x e _))
def span_high.ph (c84 : Nat → Int → Nat) : Ph := fun args => match args with
  | [.float .f64 a0_, .int .i64 a1_] => some (true, (.float .f64 (c84 a0_ a1_)))
  | _ => none
theorem span_high.phOK : PhOK Try.prog 84 (span_high.ph (span_high M0)) := ⟨by
  intro args v h
  unfold span_high.ph at h
  split at h
  · rename_i a0_ a1_
    simp only [Option.some.injEq, Prod.mk.injEq, true_and] at h
    subst h
    exact ⟨rfl, rfl, span_high.call a0_ a1_⟩
  · cases h⟩
def span_Add.k (_ : Prims) (c82 : Nat → Int → Nat) (c83 : Nat → Nat → Bool → Nat × Int) (c83ok : Nat → Nat → Bool → Bool) (c84 : Nat → Int → Nat) (a : LSpan) (b : LSpan) (k : LSpan → R) : R :=
  let x1 := c83 a.lo b.lo true
  cond (c83ok a.lo b.lo true)
    (let x3 := c83 a.hi b.hi false
     cond (c83ok a.hi b.hi false)
       (k (⟨(c82 x1.1 x1.2), (c84 x3.1 x3.2)⟩ : LSpan))
       (none))
    (none)
def span_Add (M : Prims) (a : LSpan) (b : LSpan) : LSpan :=
  let x1 := round_Add M a.lo b.lo true
  let x3 := round_Add M a.hi b.hi false
  (⟨(span_low M x1.1 x1.2), (span_high M x3.1 x3.2)⟩ : LSpan)
def span_Add.ok (M : Prims) (a : LSpan) (b : LSpan) : Bool :=
  cond (round_Add.ok M a.lo b.lo true)
    (cond (round_Add.ok M a.hi b.hi false)
       (true)
       (false))
    (false)
def span_Add.fns (c82 : Nat → Int → Nat) (c83 : Nat → Nat → Bool → Nat × Int) (c83ok : Nat → Nat → Bool → Bool) (c84 : Nat → Int → Nat) : FuncId → List Value → Option (Bool × Value) := ifId 82 (span_low.ph c82) <| ifId 83 (round_Add.ph c83 c83ok) <| ifId 84 (span_high.ph c84) <| noFns
theorem span_Add.fnsOK : PureFns Try.prog (span_Add.fns (span_low M0) (round_Add M0) (round_Add.ok M0) (span_high M0)) := ifIdOK span_low.phOK <| ifIdOK round_Add.phOK <| ifIdOK span_high.phOK <| noFnsOK
theorem span_Add.ev (M : Prims) (c82 : Nat → Int → Nat) (c83 : Nat → Nat → Bool → Nat × Int) (c83ok : Nat → Nat → Bool → Bool) (c84 : Nat → Int → Nat)  (a : LSpan) (b : LSpan) : evP tab M (span_Add.fns c82 c83 c83ok c84) noLoops 300 Try.f46 [a.val, b.val] = span_Add.k M c82 c83 c83ok c84  a b (fun r => some (r.val, [])) := by kernel_rfl
theorem span_Add.k_eq (M : Prims) (a : LSpan) (b : LSpan) (k : LSpan → R) : span_Add.ok M a b = true → span_Add.k M (span_low M) (round_Add M) (round_Add.ok M) (span_high M) a b k = k (span_Add M a b) := by
  unfold span_Add.ok span_Add.k span_Add
  exact kL (kL (fun _ => rfl))
theorem span_Add.call (a : LSpan) (b : LSpan) (h : span_Add.ok M0 a b = true) : PureOK Try.prog 46 [a.val, b.val] ((span_Add M0 a b).val) :=
  evP_sound (P := Try.prog) mixed tabOK span_Add.fnsOK Try.func46 rfl (Λ := noLoops) (c := Try.f46.body.getD .skip) rfl (noLoopsOK _) rfl (Nat.zero_le 1) rfl rfl ((span_Add.ev M0 (span_low M0) (round_Add M0) (round_Add.ok M0) (span_high M0) a b).trans (span_Add.k_eq M0 a b _ h))
def span_Add.ph (c46 : LSpan → LSpan → LSpan) (c46ok : LSpan → LSpan → Bool) : Ph := fun args => match args with
  | [.agg ⟨[.float .f64 a0_0, .float .f64 a0_1]⟩, .agg ⟨[.float .f64 a1_0, .float .f64 a1_1]⟩] => some (c46ok (⟨a0_0, a0_1⟩ : LSpan) (⟨a1_0, a1_1⟩ : LSpan), (c46 (⟨a0_0, a0_1⟩ : LSpan) (⟨a1_0, a1_1⟩ : LSpan)).val)
  | _ => none
theorem span_Add.phOK : PhOK Try.prog 46 (span_Add.ph (span_Add M0) (span_Add.ok M0)) := ⟨by
  intro args v h
  unfold span_Add.ph at h
  split at h
  · rename_i a0_0 a0_1 a1_0 a1_1
    simp only [Option.some.injEq, Prod.mk.injEq] at h
    obtain ⟨hok, rfl⟩ := h
    exact ⟨rfl, rfl, span_Add.call (⟨a0_0, a0_1⟩ : LSpan) (⟨a1_0, a1_1⟩ : LSpan) hok⟩
  · cases h⟩
def span_Sub.k (_ : Prims) (c46 : LSpan → LSpan → LSpan) (c46ok : LSpan → LSpan → Bool) (c60 : LSpan → LSpan) (a : LSpan) (b : LSpan) (k : LSpan → R) : R :=
  let x1 := c60 b
  cond (c46ok a x1)
    (k (c46 a x1))
    (none)
def span_Sub (M : Prims) (a : LSpan) (b : LSpan) : LSpan :=
  (span_Add M a (span_Neg M b))
def span_Sub.ok (M : Prims) (a : LSpan) (b : LSpan) : Bool :=
  cond (span_Add.ok M a (span_Neg M b))
    (true)
    (false)
def span_Sub.fns (c46 : LSpan → LSpan → LSpan) (c46ok : LSpan → LSpan → Bool) (c60 : LSpan → LSpan) : FuncId → List Value → Option (Bool × Value) := ifId 46 (span_Add.ph c46 c46ok) <| ifId 60 (span_Neg.ph c60) <| noFns
theorem span_Sub.fnsOK : PureFns Try.prog (span_Sub.fns (span_Add M0) (span_Add.ok M0) (span_Neg M0)) := ifIdOK span_Add.phOK <| ifIdOK span_Neg.phOK <| noFnsOK
theorem span_Sub.ev (M : Prims) (c46 : LSpan → LSpan → LSpan) (c46ok : LSpan → LSpan → Bool) (c60 : LSpan → LSpan)  (a : LSpan) (b : LSpan) : evP tab M (span_Sub.fns c46 c46ok c60) noLoops 300 Try.f45 [a.val, b.val] = span_Sub.k M c46 c46ok c60  a b (fun r => some (r.val, [])) := by kernel_rfl
theorem span_Sub.k_eq (M : Prims) (a : LSpan) (b : LSpan) (k : LSpan → R) : span_Sub.ok M a b = true → span_Sub.k M (span_Add M) (span_Add.ok M) (span_Neg M) a b k = k (span_Sub M a b) := by
  unfold span_Sub.ok span_Sub.k span_Sub
  exact kL (fun _ => rfl)
theorem span_Sub.call (a : LSpan) (b : LSpan) (h : span_Sub.ok M0 a b = true) : PureOK Try.prog 45 [a.val, b.val] ((span_Sub M0 a b).val) :=
  evP_sound (P := Try.prog) mixed tabOK span_Sub.fnsOK Try.func45 rfl (Λ := noLoops) (c := Try.f45.body.getD .skip) rfl (noLoopsOK _) rfl (Nat.zero_le 1) rfl rfl ((span_Sub.ev M0 (span_Add M0) (span_Add.ok M0) (span_Neg M0) a b).trans (span_Sub.k_eq M0 a b _ h))
def span_Sub.ph (c45 : LSpan → LSpan → LSpan) (c45ok : LSpan → LSpan → Bool) : Ph := fun args => match args with
  | [.agg ⟨[.float .f64 a0_0, .float .f64 a0_1]⟩, .agg ⟨[.float .f64 a1_0, .float .f64 a1_1]⟩] => some (c45ok (⟨a0_0, a0_1⟩ : LSpan) (⟨a1_0, a1_1⟩ : LSpan), (c45 (⟨a0_0, a0_1⟩ : LSpan) (⟨a1_0, a1_1⟩ : LSpan)).val)
  | _ => none
theorem span_Sub.phOK : PhOK Try.prog 45 (span_Sub.ph (span_Sub M0) (span_Sub.ok M0)) := ⟨by
  intro args v h
  unfold span_Sub.ph at h
  split at h
  · rename_i a0_0 a0_1 a1_0 a1_1
    simp only [Option.some.injEq, Prod.mk.injEq] at h
    obtain ⟨hok, rfl⟩ := h
    exact ⟨rfl, rfl, span_Sub.call (⟨a0_0, a0_1⟩ : LSpan) (⟨a1_0, a1_1⟩ : LSpan) hok⟩
  · cases h⟩
def vec_each_Sub.k (_ : Prims) (c45 : LSpan → LSpan → LSpan) (c45ok : LSpan → LSpan → Bool) (a : LV3) (b : LV3) (k : LV3 → R) : R :=
  cond (c45ok a.p0 b.p0)
    (cond (c45ok a.p1 b.p1)
       (cond (c45ok a.p2 b.p2)
          (k (⟨(c45 a.p0 b.p0), (c45 a.p1 b.p1), (c45 a.p2 b.p2)⟩ : LV3))
          (none))
       (none))
    (none)
def vec_each_Sub (M : Prims) (a : LV3) (b : LV3) : LV3 :=
  (⟨(span_Sub M a.p0 b.p0), (span_Sub M a.p1 b.p1), (span_Sub M a.p2 b.p2)⟩ : LV3)
def vec_each_Sub.ok (M : Prims) (a : LV3) (b : LV3) : Bool :=
  cond (span_Sub.ok M a.p0 b.p0)
    (cond (span_Sub.ok M a.p1 b.p1)
       (cond (span_Sub.ok M a.p2 b.p2)
          (true)
          (false))
       (false))
    (false)
def vec_each_Sub.fns (c45 : LSpan → LSpan → LSpan) (c45ok : LSpan → LSpan → Bool) : FuncId → List Value → Option (Bool × Value) := ifId 45 (span_Sub.ph c45 c45ok) <| noFns
theorem vec_each_Sub.fnsOK : PureFns Try.prog (vec_each_Sub.fns (span_Sub M0) (span_Sub.ok M0)) := ifIdOK span_Sub.phOK <| noFnsOK
theorem vec_each_Sub.ev (M : Prims) (c45 : LSpan → LSpan → LSpan) (c45ok : LSpan → LSpan → Bool)  (a : LV3) (b : LV3) : evP tab M (vec_each_Sub.fns c45 c45ok) noLoops 300 Try.f86 [a.val, b.val, .func (.func 45) ⟨[]⟩ ⟨[]⟩] = vec_each_Sub.k M c45 c45ok  a b (fun r => some (r.val, [])) := by kernel_rfl
theorem vec_each_Sub.k_eq (M : Prims) (a : LV3) (b : LV3) (k : LV3 → R) : vec_each_Sub.ok M a b = true → vec_each_Sub.k M (span_Sub M) (span_Sub.ok M) a b k = k (vec_each_Sub M a b) := by
  unfold vec_each_Sub.ok vec_each_Sub.k vec_each_Sub
  exact kL (kL (kL (fun _ => rfl)))
theorem vec_each_Sub.call (a : LV3) (b : LV3) (h : vec_each_Sub.ok M0 a b = true) : PureOK Try.prog 86 [a.val, b.val, .func (.func 45) ⟨[]⟩ ⟨[]⟩] ((vec_each_Sub M0 a b).val) :=
  evP_sound (P := Try.prog) mixed tabOK vec_each_Sub.fnsOK Try.func86 rfl (Λ := noLoops) (c := Try.f86.body.getD .skip) rfl (noLoopsOK _) rfl (Nat.zero_le 1) rfl rfl ((vec_each_Sub.ev M0 (span_Sub M0) (span_Sub.ok M0) a b).trans (vec_each_Sub.k_eq M0 a b _ h))
def vec_each_Sub.ph (c86_45 : LV3 → LV3 → LV3) (c86_45ok : LV3 → LV3 → Bool) : Ph := fun args => match args with
  | [.agg ⟨[.float .f64 a0_0, .float .f64 a0_1, .float .f64 a0_2, .float .f64 a0_3, .float .f64 a0_4, .float .f64 a0_5]⟩, .agg ⟨[.float .f64 a1_0, .float .f64 a1_1, .float .f64 a1_2, .float .f64 a1_3, .float .f64 a1_4, .float .f64 a1_5]⟩, .func (.func 45) ⟨[]⟩ ⟨[]⟩] => some (c86_45ok (⟨⟨a0_0, a0_1⟩, ⟨a0_2, a0_3⟩, ⟨a0_4, a0_5⟩⟩ : LV3) (⟨⟨a1_0, a1_1⟩, ⟨a1_2, a1_3⟩, ⟨a1_4, a1_5⟩⟩ : LV3), (c86_45 (⟨⟨a0_0, a0_1⟩, ⟨a0_2, a0_3⟩, ⟨a0_4, a0_5⟩⟩ : LV3) (⟨⟨a1_0, a1_1⟩, ⟨a1_2, a1_3⟩, ⟨a1_4, a1_5⟩⟩ : LV3)).val)
  | _ => none
theorem vec_each_Sub.phOK : PhOK Try.prog 86 (vec_each_Sub.ph (vec_each_Sub M0) (vec_each_Sub.ok M0)) := ⟨by
  intro args v h
  unfold vec_each_Sub.ph at h
  split at h
  · rename_i a0_0 a0_1 a0_2 a0_3 a0_4 a0_5 a1_0 a1_1 a1_2 a1_3 a1_4 a1_5
    simp only [Option.some.injEq, Prod.mk.injEq] at h
    obtain ⟨hok, rfl⟩ := h
    exact ⟨rfl, rfl, vec_each_Sub.call (⟨⟨a0_0, a0_1⟩, ⟨a0_2, a0_3⟩, ⟨a0_4, a0_5⟩⟩ : LV3) (⟨⟨a1_0, a1_1⟩, ⟨a1_2, a1_3⟩, ⟨a1_4, a1_5⟩⟩ : LV3) hok⟩
  · cases h⟩
def vec_Sub.k (_ : Prims) (c86_45 : LV3 → LV3 → LV3) (c86_45ok : LV3 → LV3 → Bool) (a : LV3) (b : LV3) (k : LV3 → R) : R :=
  cond (c86_45ok a b)
    (k (c86_45 a b))
    (none)
def vec_Sub (M : Prims) (a : LV3) (b : LV3) : LV3 :=
  (vec_each_Sub M a b)
def vec_Sub.ok (M : Prims) (a : LV3) (b : LV3) : Bool :=
  cond (vec_each_Sub.ok M a b)
    (true)
    (false)
def vec_Sub.fns (c86_45 : LV3 → LV3 → LV3) (c86_45ok : LV3 → LV3 → Bool) : FuncId → List Value → Option (Bool × Value) := ifId 86 (vec_each_Sub.ph c86_45 c86_45ok) <| noFns
theorem vec_Sub.fnsOK : PureFns Try.prog (vec_Sub.fns (vec_each_Sub M0) (vec_each_Sub.ok M0)) := ifIdOK vec_each_Sub.phOK <| noFnsOK
theorem vec_Sub.ev (M : Prims) (c86_45 : LV3 → LV3 → LV3) (c86_45ok : LV3 → LV3 → Bool)  (a : LV3) (b : LV3) : evP tab M (vec_Sub.fns c86_45 c86_45ok) noLoops 300 Try.f54 [a.val, b.val] = vec_Sub.k M c86_45 c86_45ok  a b (fun r => some (r.val, [])) := by kernel_rfl
theorem vec_Sub.k_eq (M : Prims) (a : LV3) (b : LV3) (k : LV3 → R) : vec_Sub.ok M a b = true → vec_Sub.k M (vec_each_Sub M) (vec_each_Sub.ok M) a b k = k (vec_Sub M a b) := by
  unfold vec_Sub.ok vec_Sub.k vec_Sub
  exact kL (fun _ => rfl)
theorem vec_Sub.call (a : LV3) (b : LV3) (h : vec_Sub.ok M0 a b = true) : PureOK Try.prog 54 [a.val, b.val] ((vec_Sub M0 a b).val) :=
  evP_sound (P := Try.prog) mixed tabOK vec_Sub.fnsOK Try.func54 rfl (Λ := noLoops) (c := Try.f54.body.getD .skip) rfl (noLoopsOK _) rfl (Nat.zero_le 1) rfl rfl ((vec_Sub.ev M0 (vec_each_Sub M0) (vec_each_Sub.ok M0) a b).trans (vec_Sub.k_eq M0 a b _ h))
def vec_Sub.ph (c54 : LV3 → LV3 → LV3) (c54ok : LV3 → LV3 → Bool) : Ph := fun args => match args with
  | [.agg ⟨[.float .f64 a0_0, .float .f64 a0_1, .float .f64 a0_2, .float .f64 a0_3, .float .f64 a0_4, .float .f64 a0_5]⟩, .agg ⟨[.float .f64 a1_0, .float .f64 a1_1, .float .f64 a1_2, .float .f64 a1_3, .float .f64 a1_4, .float .f64 a1_5]⟩] => some (c54ok (⟨⟨a0_0, a0_1⟩, ⟨a0_2, a0_3⟩, ⟨a0_4, a0_5⟩⟩ : LV3) (⟨⟨a1_0, a1_1⟩, ⟨a1_2, a1_3⟩, ⟨a1_4, a1_5⟩⟩ : LV3), (c54 (⟨⟨a0_0, a0_1⟩, ⟨a0_2, a0_3⟩, ⟨a0_4, a0_5⟩⟩ : LV3) (⟨⟨a1_0, a1_1⟩, ⟨a1_2, a1_3⟩, ⟨a1_4, a1_5⟩⟩ : LV3)).val)
  | _ => none
theorem vec_Sub.phOK : PhOK Try.prog 54 (vec_Sub.ph (vec_Sub M0) (vec_Sub.ok M0)) := ⟨by
  intro args v h
  unfold vec_Sub.ph at h
  split at h
  · rename_i a0_0 a0_1 a0_2 a0_3 a0_4 a0_5 a1_0 a1_1 a1_2 a1_3 a1_4 a1_5
    simp only [Option.some.injEq, Prod.mk.injEq] at h
    obtain ⟨hok, rfl⟩ := h
    exact ⟨rfl, rfl, vec_Sub.call (⟨⟨a0_0, a0_1⟩, ⟨a0_2, a0_3⟩, ⟨a0_4, a0_5⟩⟩ : LV3) (⟨⟨a1_0, a1_1⟩, ⟨a1_2, a1_3⟩, ⟨a1_4, a1_5⟩⟩ : LV3) hok⟩
  · cases h⟩
def shape_edges.k (_ : Prims) (c54 : LV3 → LV3 → LV3) (c54ok : LV3 → LV3 → Bool) (s : LShape) (k : LV3 × LV3 → R) : R :=
  cond (c54ok s.p.p1 s.p.p0)
    (cond (c54ok s.p.p2 s.p.p0)
       (k ((c54 s.p.p1 s.p.p0), (c54 s.p.p2 s.p.p0)))
       (none))
    (none)
def shape_edges (M : Prims) (s : LShape) : LV3 × LV3 :=
  ((vec_Sub M s.p.p1 s.p.p0), (vec_Sub M s.p.p2 s.p.p0))
def shape_edges.ok (M : Prims) (s : LShape) : Bool :=
  cond (vec_Sub.ok M s.p.p1 s.p.p0)
    (cond (vec_Sub.ok M s.p.p2 s.p.p0)
       (true)
       (false))
    (false)
def shape_edges.fns (c54 : LV3 → LV3 → LV3) (c54ok : LV3 → LV3 → Bool) : FuncId → List Value → Option (Bool × Value) := ifId 54 (vec_Sub.ph c54 c54ok) <| noFns
theorem shape_edges.fnsOK : PureFns Try.prog (shape_edges.fns (vec_Sub M0) (vec_Sub.ok M0)) := ifIdOK vec_Sub.phOK <| noFnsOK
theorem shape_edges.ev (M : Prims) (c54 : LV3 → LV3 → LV3) (c54ok : LV3 → LV3 → Bool)  (s : LShape) : evP tab M (shape_edges.fns c54 c54ok) noLoops 300 Try.f48 [s.val] = shape_edges.k M c54 c54ok  s (fun r => some (.tuple ⟨[r.1.val, r.2.val]⟩, [])) := by kernel_rfl
theorem shape_edges.k_eq (M : Prims) (s : LShape) (k : LV3 × LV3 → R) : shape_edges.ok M s = true → shape_edges.k M (vec_Sub M) (vec_Sub.ok M) s k = k (shape_edges M s) := by
  unfold shape_edges.ok shape_edges.k shape_edges
  exact kL (kL (fun _ => rfl))
theorem shape_edges.call (s : LShape) (h : shape_edges.ok M0 s = true) : PureOK Try.prog 48 [s.val] (.tuple ⟨[((shape_edges M0 s).1).val, ((shape_edges M0 s).2).val]⟩) :=
  evP_sound (P := Try.prog) mixed tabOK shape_edges.fnsOK Try.func48 rfl (Λ := noLoops) (c := Try.f48.body.getD .skip) rfl (noLoopsOK _) rfl (Nat.zero_le 1) rfl rfl ((shape_edges.ev M0 (vec_Sub M0) (vec_Sub.ok M0) s).trans (shape_edges.k_eq M0 s _ h))
def shape_edges.ph (c48 : LShape → LV3 × LV3) (c48ok : LShape → Bool) : Ph := fun args => match args with
  | [.agg ⟨[.int .i64 a0_0, .float .f64 a0_1, .float .f64 a0_2, .float .f64 a0_3, .float .f64 a0_4, .float .f64 a0_5, .float .f64 a0_6, .float .f64 a0_7, .float .f64 a0_8, .float .f64 a0_9, .float .f64 a0_10, .float .f64 a0_11, .float .f64 a0_12, .float .f64 a0_13, .float .f64 a0_14, .float .f64 a0_15, .float .f64 a0_16, .float .f64 a0_17, .float .f64 a0_18, .float .f64 a0_19, .float .f64 a0_20]⟩] => some (c48ok (⟨a0_0, ⟨⟨⟨a0_1, a0_2⟩, ⟨a0_3, a0_4⟩, ⟨a0_5, a0_6⟩⟩, ⟨⟨a0_7, a0_8⟩, ⟨a0_9, a0_10⟩, ⟨a0_11, a0_12⟩⟩, ⟨⟨a0_13, a0_14⟩, ⟨a0_15, a0_16⟩, ⟨a0_17, a0_18⟩⟩⟩, ⟨a0_19, a0_20⟩⟩ : LShape), .tuple ⟨[((c48 (⟨a0_0, ⟨⟨⟨a0_1, a0_2⟩, ⟨a0_3, a0_4⟩, ⟨a0_5, a0_6⟩⟩, ⟨⟨a0_7, a0_8⟩, ⟨a0_9, a0_10⟩, ⟨a0_11, a0_12⟩⟩, ⟨⟨a0_13, a0_14⟩, ⟨a0_15, a0_16⟩, ⟨a0_17, a0_18⟩⟩⟩, ⟨a0_19, a0_20⟩⟩ : LShape)).1).val, ((c48 (⟨a0_0, ⟨⟨⟨a0_1, a0_2⟩, ⟨a0_3, a0_4⟩, ⟨a0_5, a0_6⟩⟩, ⟨⟨a0_7, a0_8⟩, ⟨a0_9, a0_10⟩, ⟨a0_11, a0_12⟩⟩, ⟨⟨a0_13, a0_14⟩, ⟨a0_15, a0_16⟩, ⟨a0_17, a0_18⟩⟩⟩, ⟨a0_19, a0_20⟩⟩ : LShape)).2).val]⟩)
  | _ => none
theorem shape_edges.phOK : PhOK Try.prog 48 (shape_edges.ph (shape_edges M0) (shape_edges.ok M0)) := ⟨by
  intro args v h
  unfold shape_edges.ph at h
  split at h
  · rename_i a0_0 a0_1 a0_2 a0_3 a0_4 a0_5 a0_6 a0_7 a0_8 a0_9 a0_10 a0_11 a0_12 a0_13 a0_14 a0_15 a0_16 a0_17 a0_18 a0_19 a0_20
    simp only [Option.some.injEq, Prod.mk.injEq] at h
    obtain ⟨hok, rfl⟩ := h
    exact ⟨rfl, rfl, shape_edges.call (⟨a0_0, ⟨⟨⟨a0_1, a0_2⟩, ⟨a0_3, a0_4⟩, ⟨a0_5, a0_6⟩⟩, ⟨⟨a0_7, a0_8⟩, ⟨a0_9, a0_10⟩, ⟨a0_11, a0_12⟩⟩, ⟨⟨a0_13, a0_14⟩, ⟨a0_15, a0_16⟩, ⟨a0_17, a0_18⟩⟩⟩, ⟨a0_19, a0_20⟩⟩ : LShape) hok⟩
  · cases h⟩
def span_Wide.k (_ : Prims) (c98 : Nat → Int → Bool) (c98ok : Nat → Int → Bool) (a : LSpan) (k : Bool → R) : R :=
  cond (c98ok a.lo 0)
    (cond (c98 a.lo 0)
       (k true)
       (cond (c98ok a.hi 0)
          (k (c98 a.hi 0))
          (none)))
    (none)
def span_Wide (M : Prims) (a : LSpan) : Bool :=
  cond (math_IsInf M a.lo 0)
    (true)
    ((math_IsInf M a.hi 0))
def span_Wide.ok (M : Prims) (a : LSpan) : Bool :=
  cond (math_IsInf.ok M a.lo 0)
    (cond (math_IsInf M a.lo 0)
       (true)
       (cond (math_IsInf.ok M a.hi 0)
          (true)
          (false)))
    (false)
def span_Wide.fns (c98 : Nat → Int → Bool) (c98ok : Nat → Int → Bool) : FuncId → List Value → Option (Bool × Value) := ifId 98 (math_IsInf.ph c98 c98ok) <| noFns
theorem span_Wide.fnsOK : PureFns Try.prog (span_Wide.fns (math_IsInf M0) (math_IsInf.ok M0)) := ifIdOK math_IsInf.phOK <| noFnsOK
theorem span_Wide.ev (M : Prims) (c98 : Nat → Int → Bool) (c98ok : Nat → Int → Bool)  (a : LSpan) : evP tab M (span_Wide.fns c98 c98ok) noLoops 300 Try.f75 [a.val] = span_Wide.k M c98 c98ok  a (fun r => some ((.bool r), [])) := by kernel_rfl
theorem span_Wide.k_eq (M : Prims) (a : LSpan) (k : Bool → R) : span_Wide.ok M a = true → span_Wide.k M (math_IsInf M) (math_IsInf.ok M) a k = k (span_Wide M a) := by
  unfold span_Wide.ok span_Wide.k span_Wide
  exact kL (kC (fun _ => rfl) (kL (fun _ => rfl)))
theorem span_Wide.call (a : LSpan) (h : span_Wide.ok M0 a = true) : PureOK Try.prog 75 [a.val] (.bool (span_Wide M0 a)) :=
  evP_sound (P := Try.prog) mixed tabOK span_Wide.fnsOK Try.func75 rfl (Λ := noLoops) (c := Try.f75.body.getD .skip) rfl (noLoopsOK _) rfl (Nat.zero_le 1) rfl rfl ((span_Wide.ev M0 (math_IsInf M0) (math_IsInf.ok M0) a).trans (span_Wide.k_eq M0 a _ h))
def span_Wide.ph (c75 : LSpan → Bool) (c75ok : LSpan → Bool) : Ph := fun args => match args with
  | [.agg ⟨[.float .f64 a0_0, .float .f64 a0_1]⟩] => some (c75ok (⟨a0_0, a0_1⟩ : LSpan), (.bool (c75 (⟨a0_0, a0_1⟩ : LSpan))))
  | _ => none
theorem span_Wide.phOK : PhOK Try.prog 75 (span_Wide.ph (span_Wide M0) (span_Wide.ok M0)) := ⟨by
  intro args v h
  unfold span_Wide.ph at h
  split at h
  · rename_i a0_0 a0_1
    simp only [Option.some.injEq, Prod.mk.injEq] at h
    obtain ⟨hok, rfl⟩ := h
    exact ⟨rfl, rfl, span_Wide.call (⟨a0_0, a0_1⟩ : LSpan) hok⟩
  · cases h⟩
def span_All.k (_ : Prims) (c77 : Int → Nat) (k : LSpan → R) : R :=
  k (⟨(c77 (-1)), (c77 1)⟩ : LSpan)
def span_All (M : Prims) : LSpan :=
  (⟨(math_Inf M (-1)), (math_Inf M 1)⟩ : LSpan)
def span_All.fns (c77 : Int → Nat) : FuncId → List Value → Option (Bool × Value) := ifId 77 (math_Inf.ph c77) <| noFns
theorem span_All.fnsOK : PureFns Try.prog (span_All.fns (math_Inf M0)) := ifIdOK math_Inf.phOK <| noFnsOK
theorem span_All.ev (M : Prims) (c77 : Int → Nat)   : evP tab M (span_All.fns c77) noLoops 300 Try.f76 [] = span_All.k M c77   (fun r => some (r.val, [])) := by kernel_rfl
theorem span_All.k_eq (M : Prims)  (k : LSpan → R) : span_All.k M (math_Inf M)  k = k (span_All M ) := by
  unfold span_All.k span_All
  exact rfl
theorem span_All.call  : PureOK Try.prog 76 [] ((span_All M0 ).val) :=
  evP_sound (P := Try.prog) mixed tabOK span_All.fnsOK Try.func76 rfl (Λ := noLoops) (c := Try.f76.body.getD .skip) rfl (noLoopsOK _) rfl (Nat.zero_le 1) rfl rfl ((span_All.ev M0 (math_Inf M0) ).trans (span_All.k_eq M0  _))
def span_All.ph (c76 : LSpan) : Ph := fun args => match args with
  | [] => some (true, (c76).val)
  | _ => none
theorem span_All.phOK : PhOK Try.prog 76 (span_All.ph (span_All M0)) := ⟨by
  intro args v h
  unfold span_All.ph at h
  split at h
  · simp only [Option.some.injEq, Prod.mk.injEq, true_and] at h
    subst h
    exact ⟨rfl, rfl, span_All.call ⟩
  · cases h⟩
def bits_Mul64.k (M : Prims) (x : Int) (y : Int) (k : Int × Int → R) : R :=
  let x1 := M.and .u64 x 4294967295
  let x2 := shrV .u64 x 32
  let x3 := M.and .u64 y 4294967295
  let x4 := shrV .u64 y 32
  let x8 := IntKind.u64.wrap ((IntKind.u64.wrap (x2 * x3)) + (shrV .u64 (IntKind.u64.wrap (x1 * x3)) 32))
  k ((IntKind.u64.wrap ((IntKind.u64.wrap ((IntKind.u64.wrap (x2 * x4)) + (shrV .u64 x8 32))) + (shrV .u64 (IntKind.u64.wrap ((M.and .u64 x8 4294967295) + (IntKind.u64.wrap (x1 * x4)))) 32))), (IntKind.u64.wrap (x * y)))
def bits_Mul64 (M : Prims) (x : Int) (y : Int) : Int × Int :=
  let x1 := M.and .u64 x 4294967295
  let x2 := shrV .u64 x 32
  let x3 := M.and .u64 y 4294967295
  let x4 := shrV .u64 y 32
  let x8 := IntKind.u64.wrap ((IntKind.u64.wrap (x2 * x3)) + (shrV .u64 (IntKind.u64.wrap (x1 * x3)) 32))
  ((IntKind.u64.wrap ((IntKind.u64.wrap ((IntKind.u64.wrap (x2 * x4)) + (shrV .u64 x8 32))) + (shrV .u64 (IntKind.u64.wrap ((M.and .u64 x8 4294967295) + (IntKind.u64.wrap (x1 * x4)))) 32))), (IntKind.u64.wrap (x * y)))
def bits_Mul64.fns : FuncId → List Value → Option (Bool × Value) := noFns
theorem bits_Mul64.fnsOK : PureFns Try.prog bits_Mul64.fns := noFnsOK
theorem bits_Mul64.ev (M : Prims)   (x : Int) (y : Int) : evP tab M bits_Mul64.fns noLoops 300 Try.f105 [(.int .u64 x), (.int .u64 y)] = bits_Mul64.k M   x y (fun r => some (.tuple ⟨[(.int .u64 r.1), (.int .u64 r.2)]⟩, [])) := by kernel_rfl
theorem bits_Mul64.k_eq (M : Prims) (x : Int) (y : Int) (k : Int × Int → R) : bits_Mul64.k M  x y k = k (bits_Mul64 M x y) := by
  unfold bits_Mul64.k bits_Mul64
  exact rfl
theorem bits_Mul64.call (x : Int) (y : Int) : PureOK Try.prog 105 [(.int .u64 x), (.int .u64 y)] (.tuple ⟨[(.int .u64 ((bits_Mul64 M0 x y).1)), (.int .u64 ((bits_Mul64 M0 x y).2))]⟩) :=
  evP_sound (P := Try.prog) mixed tabOK bits_Mul64.fnsOK Try.func105 rfl (Λ := noLoops) (c := Try.f105.body.getD .skip) rfl (noLoopsOK _) rfl (Nat.zero_le 1) rfl rfl ((bits_Mul64.ev M0  x y).trans (bits_Mul64.k_eq M0 x y _))
def bits_Mul64.ph (c105 : Int → Int → Int × Int) : Ph := fun args => match args with
  | [.int .u64 a0_, .int .u64 a1_] => some (true, .tuple ⟨[(.int .u64 ((c105 a0_ a1_).1)), (.int .u64 ((c105 a0_ a1_).2))]⟩)
  | _ => none
theorem bits_Mul64.phOK : PhOK Try.prog 105 (bits_Mul64.ph (bits_Mul64 M0)) := ⟨by
  intro args v h
  unfold bits_Mul64.ph at h
  split at h
  · rename_i a0_ a1_
    simp only [Option.some.injEq, Prod.mk.injEq, true_and] at h
    subst h
    exact ⟨rfl, rfl, bits_Mul64.call a0_ a1_⟩
  · cases h⟩
end Go.Lan
