import Derived.Test.YtpgjihkaocahbaaGreatGLb7Lb8
namespace Go.Lan
open Go.Proofs
def lanternref02_Mul.k (M : Prims) (c65 : Nat) (c70 : LSpan) (c97 : LSpan → Bool) (c98 : LSpan → Bool) (c99 : Nat → Nat → Bool → Nat × Int) (c99ok : Nat → Nat → Bool → Bool) (a : LSpan) (b : LSpan) (k : LSpan → R) : R :=
  cond (c97 a)
    (k (⟨0, 0⟩ : LSpan))
    (cond (c97 b)
       (k (⟨0, 0⟩ : LSpan))
       (cond (c98 a)
          (k c70)
          (cond (c98 b)
             (k c70)
             (let x7 := M.neg c65
              let x8 := c99 a.lo b.lo true
              cond (c99ok a.lo b.lo true)
                (let x9 := c99 a.lo b.lo false
                 cond (c99ok a.lo b.lo false)
                   (let x11 := cond (M.lt x8.1 c65) (x8.1 : Nat) c65
                    let x13 := cond (M.gt x9.1 x7) (x9.1 : Nat) x7
                    let x14 := c99 a.lo b.hi true
                    cond (c99ok a.lo b.hi true)
                      (let x15 := c99 a.lo b.hi false
                       cond (c99ok a.lo b.hi false)
                         (let x17 := cond (M.lt x14.1 x11) (x14.1 : Nat) x11
                          let x19 := cond (M.gt x15.1 x13) (x15.1 : Nat) x13
                          let x20 := c99 a.hi b.lo true
                          cond (c99ok a.hi b.lo true)
                            (let x21 := c99 a.hi b.lo false
                             cond (c99ok a.hi b.lo false)
                               (let x23 := cond (M.lt x20.1 x17) (x20.1 : Nat) x17
                                let x25 := cond (M.gt x21.1 x19) (x21.1 : Nat) x19
                                let x26 := c99 a.hi b.hi true
                                cond (c99ok a.hi b.hi true)
                                  (let x27 := c99 a.hi b.hi false
                                   cond (c99ok a.hi b.hi false)
                                     (k (⟨(cond (M.lt x26.1 x23) (x26.1 : Nat) x23), (cond (M.gt x27.1 x25) (x27.1 : Nat) x25)⟩ : LSpan))
                                     (none))
                                  (none))
                               (none))
                            (none))
                         (none))
                      (none))
                   (none))
                (none)))))
def lanternref02_Mul (M : Prims) (a : LSpan) (b : LSpan) : LSpan :=
  cond (lanternref02_nothing M a)
    ((⟨0, 0⟩ : LSpan))
    (cond (lanternref02_nothing M b)
       ((⟨0, 0⟩ : LSpan))
       (cond (lanternref02_Wide M a)
          ((lanternref02_All M))
          (cond (lanternref02_Wide M b)
             ((lanternref02_All M))
             (let x7 := M.neg (lanternref01_Inf M)
              let x8 := lanternref01_Mul M a.lo b.lo true
              let x9 := lanternref01_Mul M a.lo b.lo false
              let x11 := cond (M.lt x8.1 (lanternref01_Inf M)) (x8.1 : Nat) (lanternref01_Inf M)
              let x13 := cond (M.gt x9.1 x7) (x9.1 : Nat) x7
              let x14 := lanternref01_Mul M a.lo b.hi true
              let x15 := lanternref01_Mul M a.lo b.hi false
              let x17 := cond (M.lt x14.1 x11) (x14.1 : Nat) x11
              let x19 := cond (M.gt x15.1 x13) (x15.1 : Nat) x13
              let x20 := lanternref01_Mul M a.hi b.lo true
              let x21 := lanternref01_Mul M a.hi b.lo false
              let x23 := cond (M.lt x20.1 x17) (x20.1 : Nat) x17
              let x25 := cond (M.gt x21.1 x19) (x21.1 : Nat) x19
              let x26 := lanternref01_Mul M a.hi b.hi true
              let x27 := lanternref01_Mul M a.hi b.hi false
              (⟨(cond (M.lt x26.1 x23) (x26.1 : Nat) x23), (cond (M.gt x27.1 x25) (x27.1 : Nat) x25)⟩ : LSpan)))))
def lanternref02_Mul.ok (M : Prims) (a : LSpan) (b : LSpan) : Bool :=
  cond (lanternref02_nothing M a)
    (true)
    (cond (lanternref02_nothing M b)
       (true)
       (cond (lanternref02_Wide M a)
          (true)
          (cond (lanternref02_Wide M b)
             (true)
             (cond (lanternref01_Mul.ok M a.lo b.lo true)
                (cond (lanternref01_Mul.ok M a.lo b.lo false)
                   (cond (lanternref01_Mul.ok M a.lo b.hi true)
                      (cond (lanternref01_Mul.ok M a.lo b.hi false)
                         (cond (lanternref01_Mul.ok M a.hi b.lo true)
                            (cond (lanternref01_Mul.ok M a.hi b.lo false)
                               (cond (lanternref01_Mul.ok M a.hi b.hi true)
                                  (cond (lanternref01_Mul.ok M a.hi b.hi false)
                                     (true)
                                     (false))
                                  (false))
                               (false))
                            (false))
                         (false))
                      (false))
                   (false))
                (false)))))
def lanternref02_Mul.fns (c65 : Nat) (c70 : LSpan) (c97 : LSpan → Bool) (c98 : LSpan → Bool) (c99 : Nat → Nat → Bool → Nat × Int) (c99ok : Nat → Nat → Bool → Bool) : FuncId → List Value → Option (Bool × Value) := ifId 65 (lanternref01_Inf.ph c65) <| ifId 70 (lanternref02_All.ph c70) <| ifId 97 (lanternref02_nothing.ph c97) <| ifId 98 (lanternref02_Wide.ph c98) <| ifId 99 (lanternref01_Mul.ph c99 c99ok) <| noFns
def lanternref02_Mul.lps  : Loops := fun key e h => match key with
  | 1000014 => some (true, 0, e, h)
  | 1000016 => some (true, 0, e, h)
  | _ => none
theorem lanternref02_Mul.fnsOK : PureFns Tryz.prog (lanternref02_Mul.fns (lanternref01_Inf M0) (lanternref02_All M0) (lanternref02_nothing M0) (lanternref02_Wide M0) (lanternref01_Mul M0) (lanternref01_Mul.ok M0)) := ifIdOK lanternref01_Inf.phOK <| ifIdOK lanternref02_All.phOK <| ifIdOK lanternref02_nothing.phOK <| ifIdOK lanternref02_Wide.phOK <| ifIdOK lanternref01_Mul.phOK <| noFnsOK
noncomputable def lanternref02_Mul.B9.body : Code := (nth (loopsOf (Tryz.f51.body.getD .skip)) 0).getD .skip
theorem lanternref02_Mul.B9.isOK : LoopOK Tryz.prog 88 (lanternref02_Mul.lps ) lanternref02_Mul.B9.body := by
  intro e h x e2 h2 hL0
  rw [show keyOf lanternref02_Mul.B9.body = 9 from by kernel_rfl] at hL0
  have hL : (none : Option (Bool × Nat × Env × Hp)) = some (true, x, e2, h2) := hL0
  cases hL
theorem lanternref02_Mul.lpsOK : LoopsOK Tryz.prog 88 (lanternref02_Mul.lps ) (loopsOf (Tryz.f51.body.getD .skip)) := by
  rw [show loopsOf (Tryz.f51.body.getD .skip) = [lanternref02_Mul.B9.body] from by kernel_rfl]
  exact ⟨lanternref02_Mul.B9.isOK, trivial⟩
theorem lanternref02_Mul.ev (M : Prims) (c65 : Nat) (c70 : LSpan) (c97 : LSpan → Bool) (c98 : LSpan → Bool) (c99 : Nat → Nat → Bool → Nat × Int) (c99ok : Nat → Nat → Bool → Bool)  (a : LSpan) (b : LSpan) : evP tab M (lanternref02_Mul.fns c65 c70 c97 c98 c99 c99ok) (lanternref02_Mul.lps ) 300 Tryz.f51 [a.val, b.val] = lanternref02_Mul.k M c65 c70 c97 c98 c99 c99ok  a b (fun r => some (r.val, [])) := by kernel_rfl
theorem lanternref02_Mul.k_eq (M : Prims) (a : LSpan) (b : LSpan) (k : LSpan → R) : lanternref02_Mul.ok M a b = true → lanternref02_Mul.k M (lanternref01_Inf M) (lanternref02_All M) (lanternref02_nothing M) (lanternref02_Wide M) (lanternref01_Mul M) (lanternref01_Mul.ok M) a b k = k (lanternref02_Mul M a b) := by
  unfold lanternref02_Mul.ok lanternref02_Mul.k lanternref02_Mul
  exact kC (fun _ => rfl) (kC (fun _ => rfl) (kC (fun _ => rfl) (kC (fun _ => rfl) (kL (kL (kL (kL (kL (kL (kL (kL (fun _ => rfl))))))))))))
theorem lanternref02_Mul.call (a : LSpan) (b : LSpan) (h : lanternref02_Mul.ok M0 a b = true) : PureOK Tryz.prog 51 [a.val, b.val] ((lanternref02_Mul M0 a b).val) :=
  evP_sound (P := Tryz.prog) mixed tabOK lanternref02_Mul.fnsOK Tryz.func51 rfl (Λ := (lanternref02_Mul.lps )) (c := Tryz.f51.body.getD .skip) rfl lanternref02_Mul.lpsOK rfl (Nat.zero_le 1) rfl rfl ((lanternref02_Mul.ev M0 (lanternref01_Inf M0) (lanternref02_All M0) (lanternref02_nothing M0) (lanternref02_Wide M0) (lanternref01_Mul M0) (lanternref01_Mul.ok M0) a b).trans (lanternref02_Mul.k_eq M0 a b _ h))
def lanternref02_Mul.ph (c51 : LSpan → LSpan → LSpan) (c51ok : LSpan → LSpan → Bool) : Ph := fun args => match args with
  | [.agg ⟨[.float .f64 a0_0, .float .f64 a0_1]⟩, .agg ⟨[.float .f64 a1_0, .float .f64 a1_1]⟩] => some (c51ok (⟨a0_0, a0_1⟩ : LSpan) (⟨a1_0, a1_1⟩ : LSpan), (c51 (⟨a0_0, a0_1⟩ : LSpan) (⟨a1_0, a1_1⟩ : LSpan)).val)
  | _ => none
theorem lanternref02_Mul.phOK : PhOK Tryz.prog 51 (lanternref02_Mul.ph (lanternref02_Mul M0) (lanternref02_Mul.ok M0)) := ⟨by
  intro args v h
  unfold lanternref02_Mul.ph at h
  split at h
  · rename_i a0_0 a0_1 a1_0 a1_1
    simp only [Option.some.injEq, Prod.mk.injEq] at h
    obtain ⟨hok, rfl⟩ := h
    exact ⟨rfl, rfl, lanternref02_Mul.call (⟨a0_0, a0_1⟩ : LSpan) (⟨a1_0, a1_1⟩ : LSpan) hok⟩
  · cases h⟩
def lanternref03_cross.k (_ : Prims) (c51 : LSpan → LSpan → LSpan) (c51ok : LSpan → LSpan → Bool) (c58 : LSpan → LSpan → LSpan) (c58ok : LSpan → LSpan → Bool) (x : LSpan) (u : LSpan) (y : LSpan) (v : LSpan) (k : LSpan → R) : R :=
  let x1 := c51 x u
  cond (c51ok x u)
    (let x2 := c51 y v
     cond (c51ok y v)
       (cond (c58ok x1 x2)
          (k (c58 x1 x2))
          (none))
       (none))
    (none)
def lanternref03_cross (M : Prims) (x : LSpan) (u : LSpan) (y : LSpan) (v : LSpan) : LSpan :=
  (lanternref02_Sub M (lanternref02_Mul M x u) (lanternref02_Mul M y v))
def lanternref03_cross.ok (M : Prims) (x : LSpan) (u : LSpan) (y : LSpan) (v : LSpan) : Bool :=
  cond (lanternref02_Mul.ok M x u)
    (cond (lanternref02_Mul.ok M y v)
       (cond (lanternref02_Sub.ok M (lanternref02_Mul M x u) (lanternref02_Mul M y v))
          (true)
          (false))
       (false))
    (false)
def lanternref03_cross.fns (c51 : LSpan → LSpan → LSpan) (c51ok : LSpan → LSpan → Bool) (c58 : LSpan → LSpan → LSpan) (c58ok : LSpan → LSpan → Bool) : FuncId → List Value → Option (Bool × Value) := ifId 51 (lanternref02_Mul.ph c51 c51ok) <| ifId 58 (lanternref02_Sub.ph c58 c58ok) <| noFns
theorem lanternref03_cross.fnsOK : PureFns Tryz.prog (lanternref03_cross.fns (lanternref02_Mul M0) (lanternref02_Mul.ok M0) (lanternref02_Sub M0) (lanternref02_Sub.ok M0)) := ifIdOK lanternref02_Mul.phOK <| ifIdOK lanternref02_Sub.phOK <| noFnsOK
theorem lanternref03_cross.ev (M : Prims) (c51 : LSpan → LSpan → LSpan) (c51ok : LSpan → LSpan → Bool) (c58 : LSpan → LSpan → LSpan) (c58ok : LSpan → LSpan → Bool)  (x : LSpan) (u : LSpan) (y : LSpan) (v : LSpan) : evP tab M (lanternref03_cross.fns c51 c51ok c58 c58ok) noLoops 300 Tryz.f90 [x.val, u.val, y.val, v.val] = lanternref03_cross.k M c51 c51ok c58 c58ok  x u y v (fun r => some (r.val, [])) := by kernel_rfl
theorem lanternref03_cross.k_eq (M : Prims) (x : LSpan) (u : LSpan) (y : LSpan) (v : LSpan) (k : LSpan → R) : lanternref03_cross.ok M x u y v = true → lanternref03_cross.k M (lanternref02_Mul M) (lanternref02_Mul.ok M) (lanternref02_Sub M) (lanternref02_Sub.ok M) x u y v k = k (lanternref03_cross M x u y v) := by
  unfold lanternref03_cross.ok lanternref03_cross.k lanternref03_cross
  exact kL (kL (kL (fun _ => rfl)))
theorem lanternref03_cross.call (x : LSpan) (u : LSpan) (y : LSpan) (v : LSpan) (h : lanternref03_cross.ok M0 x u y v = true) : PureOK Tryz.prog 90 [x.val, u.val, y.val, v.val] ((lanternref03_cross M0 x u y v).val) :=
  evP_sound (P := Tryz.prog) mixed tabOK lanternref03_cross.fnsOK Tryz.func90 rfl (Λ := noLoops) (c := Tryz.f90.body.getD .skip) rfl (noLoopsOK _) rfl (Nat.zero_le 1) rfl rfl ((lanternref03_cross.ev M0 (lanternref02_Mul M0) (lanternref02_Mul.ok M0) (lanternref02_Sub M0) (lanternref02_Sub.ok M0) x u y v).trans (lanternref03_cross.k_eq M0 x u y v _ h))
def lanternref03_cross.ph (c90 : LSpan → LSpan → LSpan → LSpan → LSpan) (c90ok : LSpan → LSpan → LSpan → LSpan → Bool) : Ph := fun args => match args with
  | [.agg ⟨[.float .f64 a0_0, .float .f64 a0_1]⟩, .agg ⟨[.float .f64 a1_0, .float .f64 a1_1]⟩, .agg ⟨[.float .f64 a2_0, .float .f64 a2_1]⟩, .agg ⟨[.float .f64 a3_0, .float .f64 a3_1]⟩] => some (c90ok (⟨a0_0, a0_1⟩ : LSpan) (⟨a1_0, a1_1⟩ : LSpan) (⟨a2_0, a2_1⟩ : LSpan) (⟨a3_0, a3_1⟩ : LSpan), (c90 (⟨a0_0, a0_1⟩ : LSpan) (⟨a1_0, a1_1⟩ : LSpan) (⟨a2_0, a2_1⟩ : LSpan) (⟨a3_0, a3_1⟩ : LSpan)).val)
  | _ => none
theorem lanternref03_cross.phOK : PhOK Tryz.prog 90 (lanternref03_cross.ph (lanternref03_cross M0) (lanternref03_cross.ok M0)) := ⟨by
  intro args v h
  unfold lanternref03_cross.ph at h
  split at h
  · rename_i a0_0 a0_1 a1_0 a1_1 a2_0 a2_1 a3_0 a3_1
    simp only [Option.some.injEq, Prod.mk.injEq] at h
    obtain ⟨hok, rfl⟩ := h
    exact ⟨rfl, rfl, lanternref03_cross.call (⟨a0_0, a0_1⟩ : LSpan) (⟨a1_0, a1_1⟩ : LSpan) (⟨a2_0, a2_1⟩ : LSpan) (⟨a3_0, a3_1⟩ : LSpan) hok⟩
  · cases h⟩
def lanternref03_Cross.k (_ : Prims) (c90 : LSpan → LSpan → LSpan → LSpan → LSpan) (c90ok : LSpan → LSpan → LSpan → LSpan → Bool) (a : LV3) (b : LV3) (k : LV3 → R) : R :=
  cond (c90ok a.p1 b.p2 a.p2 b.p1)
    (cond (c90ok a.p2 b.p0 a.p0 b.p2)
       (cond (c90ok a.p0 b.p1 a.p1 b.p0)
          (k (⟨(c90 a.p1 b.p2 a.p2 b.p1), (c90 a.p2 b.p0 a.p0 b.p2), (c90 a.p0 b.p1 a.p1 b.p0)⟩ : LV3))
          (none))
       (none))
    (none)
def lanternref03_Cross (M : Prims) (a : LV3) (b : LV3) : LV3 :=
  (⟨(lanternref03_cross M a.p1 b.p2 a.p2 b.p1), (lanternref03_cross M a.p2 b.p0 a.p0 b.p2), (lanternref03_cross M a.p0 b.p1 a.p1 b.p0)⟩ : LV3)
def lanternref03_Cross.ok (M : Prims) (a : LV3) (b : LV3) : Bool :=
  cond (lanternref03_cross.ok M a.p1 b.p2 a.p2 b.p1)
    (cond (lanternref03_cross.ok M a.p2 b.p0 a.p0 b.p2)
       (cond (lanternref03_cross.ok M a.p0 b.p1 a.p1 b.p0)
          (true)
          (false))
       (false))
    (false)
def lanternref03_Cross.fns (c90 : LSpan → LSpan → LSpan → LSpan → LSpan) (c90ok : LSpan → LSpan → LSpan → LSpan → Bool) : FuncId → List Value → Option (Bool × Value) := ifId 90 (lanternref03_cross.ph c90 c90ok) <| noFns
theorem lanternref03_Cross.fnsOK : PureFns Tryz.prog (lanternref03_Cross.fns (lanternref03_cross M0) (lanternref03_cross.ok M0)) := ifIdOK lanternref03_cross.phOK <| noFnsOK
theorem lanternref03_Cross.ev (M : Prims) (c90 : LSpan → LSpan → LSpan → LSpan → LSpan) (c90ok : LSpan → LSpan → LSpan → LSpan → Bool)  (a : LV3) (b : LV3) : evP tab M (lanternref03_Cross.fns c90 c90ok) noLoops 300 Tryz.f46 [a.val, b.val] = lanternref03_Cross.k M c90 c90ok  a b (fun r => some (r.val, [])) := by kernel_rfl
theorem lanternref03_Cross.k_eq (M : Prims) (a : LV3) (b : LV3) (k : LV3 → R) : lanternref03_Cross.ok M a b = true → lanternref03_Cross.k M (lanternref03_cross M) (lanternref03_cross.ok M) a b k = k (lanternref03_Cross M a b) := by
  unfold lanternref03_Cross.ok lanternref03_Cross.k lanternref03_Cross
  exact kL (kL (kL (fun _ => rfl)))
theorem lanternref03_Cross.call (a : LV3) (b : LV3) (h : lanternref03_Cross.ok M0 a b = true) : PureOK Tryz.prog 46 [a.val, b.val] ((lanternref03_Cross M0 a b).val) :=
  evP_sound (P := Tryz.prog) mixed tabOK lanternref03_Cross.fnsOK Tryz.func46 rfl (Λ := noLoops) (c := Tryz.f46.body.getD .skip) rfl (noLoopsOK _) rfl (Nat.zero_le 1) rfl rfl ((lanternref03_Cross.ev M0 (lanternref03_cross M0) (lanternref03_cross.ok M0) a b).trans (lanternref03_Cross.k_eq M0 a b _ h))
def lanternref03_Cross.ph (c46 : LV3 → LV3 → LV3) (c46ok : LV3 → LV3 → Bool) : Ph := fun args => match args with
  | [.agg ⟨[.float .f64 a0_0, .float .f64 a0_1, .float .f64 a0_2, .float .f64 a0_3, .float .f64 a0_4, .float .f64 a0_5]⟩, .agg ⟨[.float .f64 a1_0, .float .f64 a1_1, .float .f64 a1_2, .float .f64 a1_3, .float .f64 a1_4, .float .f64 a1_5]⟩] => some (c46ok (⟨⟨a0_0, a0_1⟩, ⟨a0_2, a0_3⟩, ⟨a0_4, a0_5⟩⟩ : LV3) (⟨⟨a1_0, a1_1⟩, ⟨a1_2, a1_3⟩, ⟨a1_4, a1_5⟩⟩ : LV3), (c46 (⟨⟨a0_0, a0_1⟩, ⟨a0_2, a0_3⟩, ⟨a0_4, a0_5⟩⟩ : LV3) (⟨⟨a1_0, a1_1⟩, ⟨a1_2, a1_3⟩, ⟨a1_4, a1_5⟩⟩ : LV3)).val)
  | _ => none
theorem lanternref03_Cross.phOK : PhOK Tryz.prog 46 (lanternref03_Cross.ph (lanternref03_Cross M0) (lanternref03_Cross.ok M0)) := ⟨by
  intro args v h
  unfold lanternref03_Cross.ph at h
  split at h
  · rename_i a0_0 a0_1 a0_2 a0_3 a0_4 a0_5 a1_0 a1_1 a1_2 a1_3 a1_4 a1_5
    simp only [Option.some.injEq, Prod.mk.injEq] at h
    obtain ⟨hok, rfl⟩ := h
    exact ⟨rfl, rfl, lanternref03_Cross.call (⟨⟨a0_0, a0_1⟩, ⟨a0_2, a0_3⟩, ⟨a0_4, a0_5⟩⟩ : LV3) (⟨⟨a1_0, a1_1⟩, ⟨a1_2, a1_3⟩, ⟨a1_4, a1_5⟩⟩ : LV3) hok⟩
  · cases h⟩
def lanternref02_Sqr.k (M : Prims) (c51 : LSpan → LSpan → LSpan) (c51ok : LSpan → LSpan → Bool) (c70 : LSpan) (c98 : LSpan → Bool) (a : LSpan) (k : LSpan → R) : R :=
  cond (c98 a)
    (k (⟨0, c70.hi⟩ : LSpan))
    (let x3 := c51 a a
     cond (c51ok a a)
       (cond (M.le a.lo 0)
          (cond (M.ge a.hi 0)
             (k (⟨0, x3.hi⟩ : LSpan))
             (k x3))
          (k x3))
       (none))
def lanternref02_Sqr (M : Prims) (a : LSpan) : LSpan :=
  cond (lanternref02_Wide M a)
    ((⟨0, (lanternref02_All M).hi⟩ : LSpan))
    (let x3 := lanternref02_Mul M a a
     cond (M.le a.lo 0)
       (cond (M.ge a.hi 0)
          ((⟨0, x3.hi⟩ : LSpan))
          (x3))
       (x3))
def lanternref02_Sqr.ok (M : Prims) (a : LSpan) : Bool :=
  cond (lanternref02_Wide M a)
    (true)
    (cond (lanternref02_Mul.ok M a a)
       (true)
       (false))
def lanternref02_Sqr.fns (c51 : LSpan → LSpan → LSpan) (c51ok : LSpan → LSpan → Bool) (c70 : LSpan) (c98 : LSpan → Bool) : FuncId → List Value → Option (Bool × Value) := ifId 51 (lanternref02_Mul.ph c51 c51ok) <| ifId 70 (lanternref02_All.ph c70) <| ifId 98 (lanternref02_Wide.ph c98) <| noFns
theorem lanternref02_Sqr.fnsOK : PureFns Tryz.prog (lanternref02_Sqr.fns (lanternref02_Mul M0) (lanternref02_Mul.ok M0) (lanternref02_All M0) (lanternref02_Wide M0)) := ifIdOK lanternref02_Mul.phOK <| ifIdOK lanternref02_All.phOK <| ifIdOK lanternref02_Wide.phOK <| noFnsOK
theorem lanternref02_Sqr.ev (M : Prims) (c51 : LSpan → LSpan → LSpan) (c51ok : LSpan → LSpan → Bool) (c70 : LSpan) (c98 : LSpan → Bool)  (a : LSpan) : evP tab M (lanternref02_Sqr.fns c51 c51ok c70 c98) noLoops 300 Tryz.f126 [a.val] = lanternref02_Sqr.k M c51 c51ok c70 c98  a (fun r => some (r.val, [])) := by kernel_rfl
theorem lanternref02_Sqr.k_eq (M : Prims) (a : LSpan) (k : LSpan → R) : lanternref02_Sqr.ok M a = true → lanternref02_Sqr.k M (lanternref02_Mul M) (lanternref02_Mul.ok M) (lanternref02_All M) (lanternref02_Wide M) a k = k (lanternref02_Sqr M a) := by
  unfold lanternref02_Sqr.ok lanternref02_Sqr.k lanternref02_Sqr
  exact kC (fun _ => rfl) (kL (fun _ => pC (pC rfl rfl) rfl))
theorem lanternref02_Sqr.call (a : LSpan) (h : lanternref02_Sqr.ok M0 a = true) : PureOK Tryz.prog 126 [a.val] ((lanternref02_Sqr M0 a).val) :=
  evP_sound (P := Tryz.prog) mixed tabOK lanternref02_Sqr.fnsOK Tryz.func126 rfl (Λ := noLoops) (c := Tryz.f126.body.getD .skip) rfl (noLoopsOK _) rfl (Nat.zero_le 1) rfl rfl ((lanternref02_Sqr.ev M0 (lanternref02_Mul M0) (lanternref02_Mul.ok M0) (lanternref02_All M0) (lanternref02_Wide M0) a).trans (lanternref02_Sqr.k_eq M0 a _ h))
def lanternref02_Sqr.ph (c126 : LSpan → LSpan) (c126ok : LSpan → Bool) : Ph := fun args => match args with
  | [.agg ⟨[.float .f64 a0_0, .float .f64 a0_1]⟩] => some (c126ok (⟨a0_0, a0_1⟩ : LSpan), (c126 (⟨a0_0, a0_1⟩ : LSpan)).val)
  | _ => none
theorem lanternref02_Sqr.phOK : PhOK Tryz.prog 126 (lanternref02_Sqr.ph (lanternref02_Sqr M0) (lanternref02_Sqr.ok M0)) := ⟨by
  intro args v h
  unfold lanternref02_Sqr.ph at h
  split at h
  · rename_i a0_0 a0_1
    simp only [Option.some.injEq, Prod.mk.injEq] at h
    obtain ⟨hok, rfl⟩ := h
    exact ⟨rfl, rfl, lanternref02_Sqr.call (⟨a0_0, a0_1⟩ : LSpan) hok⟩
  · cases h⟩
def lanternref03_Sum.k (_ : Prims) (c64 : LSpan → LSpan → LSpan) (c64ok : LSpan → LSpan → Bool) (a : LV3) (k : LSpan → R) : R :=
  let x1 := c64 a.p0 a.p1
  cond (c64ok a.p0 a.p1)
    (cond (c64ok x1 a.p2)
       (k (c64 x1 a.p2))
       (none))
    (none)
def lanternref03_Sum (M : Prims) (a : LV3) : LSpan :=
  (lanternref02_Add M (lanternref02_Add M a.p0 a.p1) a.p2)
def lanternref03_Sum.ok (M : Prims) (a : LV3) : Bool :=
  cond (lanternref02_Add.ok M a.p0 a.p1)
    (cond (lanternref02_Add.ok M (lanternref02_Add M a.p0 a.p1) a.p2)
       (true)
       (false))
    (false)
def lanternref03_Sum.fns (c64 : LSpan → LSpan → LSpan) (c64ok : LSpan → LSpan → Bool) : FuncId → List Value → Option (Bool × Value) := ifId 64 (lanternref02_Add.ph c64 c64ok) <| noFns
theorem lanternref03_Sum.fnsOK : PureFns Tryz.prog (lanternref03_Sum.fns (lanternref02_Add M0) (lanternref02_Add.ok M0)) := ifIdOK lanternref02_Add.phOK <| noFnsOK
theorem lanternref03_Sum.ev (M : Prims) (c64 : LSpan → LSpan → LSpan) (c64ok : LSpan → LSpan → Bool)  (a : LV3) : evP tab M (lanternref03_Sum.fns c64 c64ok) noLoops 300 Tryz.f137 [a.val] = lanternref03_Sum.k M c64 c64ok  a (fun r => some (r.val, [])) := by kernel_rfl
theorem lanternref03_Sum.k_eq (M : Prims) (a : LV3) (k : LSpan → R) : lanternref03_Sum.ok M a = true → lanternref03_Sum.k M (lanternref02_Add M) (lanternref02_Add.ok M) a k = k (lanternref03_Sum M a) := by
  unfold lanternref03_Sum.ok lanternref03_Sum.k lanternref03_Sum
  exact kL (kL (fun _ => rfl))
theorem lanternref03_Sum.call (a : LV3) (h : lanternref03_Sum.ok M0 a = true) : PureOK Tryz.prog 137 [a.val] ((lanternref03_Sum M0 a).val) :=
  evP_sound (P := Tryz.prog) mixed tabOK lanternref03_Sum.fnsOK Tryz.func137 rfl (Λ := noLoops) (c := Tryz.f137.body.getD .skip) rfl (noLoopsOK _) rfl (Nat.zero_le 1) rfl rfl ((lanternref03_Sum.ev M0 (lanternref02_Add M0) (lanternref02_Add.ok M0) a).trans (lanternref03_Sum.k_eq M0 a _ h))
def lanternref03_Sum.ph (c137 : LV3 → LSpan) (c137ok : LV3 → Bool) : Ph := fun args => match args with
  | [.agg ⟨[.float .f64 a0_0, .float .f64 a0_1, .float .f64 a0_2, .float .f64 a0_3, .float .f64 a0_4, .float .f64 a0_5]⟩] => some (c137ok (⟨⟨a0_0, a0_1⟩, ⟨a0_2, a0_3⟩, ⟨a0_4, a0_5⟩⟩ : LV3), (c137 (⟨⟨a0_0, a0_1⟩, ⟨a0_2, a0_3⟩, ⟨a0_4, a0_5⟩⟩ : LV3)).val)
  | _ => none
theorem lanternref03_Sum.phOK : PhOK Tryz.prog 137 (lanternref03_Sum.ph (lanternref03_Sum M0) (lanternref03_Sum.ok M0)) := ⟨by
  intro args v h
  unfold lanternref03_Sum.ph at h
  split at h
  · rename_i a0_0 a0_1 a0_2 a0_3 a0_4 a0_5
    simp only [Option.some.injEq, Prod.mk.injEq] at h
    obtain ⟨hok, rfl⟩ := h
    exact ⟨rfl, rfl, lanternref03_Sum.call (⟨⟨a0_0, a0_1⟩, ⟨a0_2, a0_3⟩, ⟨a0_4, a0_5⟩⟩ : LV3) hok⟩
  · cases h⟩
def lanternref03_Sqr.k (_ : Prims) (c126 : LSpan → LSpan) (c126ok : LSpan → Bool) (c137 : LV3 → LSpan) (c137ok : LV3 → Bool) (a : LV3) (k : LSpan → R) : R :=
  let x1 := c126 a.p0
  cond (c126ok a.p0)
    (let x2 := c126 a.p1
     cond (c126ok a.p1)
       (let x3 := c126 a.p2
        cond (c126ok a.p2)
          (cond (c137ok (⟨x1, x2, x3⟩ : LV3))
             (k (c137 (⟨x1, x2, x3⟩ : LV3)))
             (none))
          (none))
       (none))
    (none)
def lanternref03_Sqr (M : Prims) (a : LV3) : LSpan :=
  (lanternref03_Sum M (⟨(lanternref02_Sqr M a.p0), (lanternref02_Sqr M a.p1), (lanternref02_Sqr M a.p2)⟩ : LV3))
def lanternref03_Sqr.ok (M : Prims) (a : LV3) : Bool :=
  cond (lanternref02_Sqr.ok M a.p0)
    (cond (lanternref02_Sqr.ok M a.p1)
       (cond (lanternref02_Sqr.ok M a.p2)
          (cond (lanternref03_Sum.ok M (⟨(lanternref02_Sqr M a.p0), (lanternref02_Sqr M a.p1), (lanternref02_Sqr M a.p2)⟩ : LV3))
             (true)
             (false))
          (false))
       (false))
    (false)
def lanternref03_Sqr.fns (c126 : LSpan → LSpan) (c126ok : LSpan → Bool) (c137 : LV3 → LSpan) (c137ok : LV3 → Bool) : FuncId → List Value → Option (Bool × Value) := ifId 126 (lanternref02_Sqr.ph c126 c126ok) <| ifId 137 (lanternref03_Sum.ph c137 c137ok) <| noFns
theorem lanternref03_Sqr.fnsOK : PureFns Tryz.prog (lanternref03_Sqr.fns (lanternref02_Sqr M0) (lanternref02_Sqr.ok M0) (lanternref03_Sum M0) (lanternref03_Sum.ok M0)) := ifIdOK lanternref02_Sqr.phOK <| ifIdOK lanternref03_Sum.phOK <| noFnsOK
theorem lanternref03_Sqr.ev (M : Prims) (c126 : LSpan → LSpan) (c126ok : LSpan → Bool) (c137 : LV3 → LSpan) (c137ok : LV3 → Bool)  (a : LV3) : evP tab M (lanternref03_Sqr.fns c126 c126ok c137 c137ok) noLoops 300 Tryz.f91 [a.val] = lanternref03_Sqr.k M c126 c126ok c137 c137ok  a (fun r => some (r.val, [])) := by kernel_rfl
theorem lanternref03_Sqr.k_eq (M : Prims) (a : LV3) (k : LSpan → R) : lanternref03_Sqr.ok M a = true → lanternref03_Sqr.k M (lanternref02_Sqr M) (lanternref02_Sqr.ok M) (lanternref03_Sum M) (lanternref03_Sum.ok M) a k = k (lanternref03_Sqr M a) := by
  unfold lanternref03_Sqr.ok lanternref03_Sqr.k lanternref03_Sqr
  exact kL (kL (kL (kL (fun _ => rfl))))
theorem lanternref03_Sqr.call (a : LV3) (h : lanternref03_Sqr.ok M0 a = true) : PureOK Tryz.prog 91 [a.val] ((lanternref03_Sqr M0 a).val) :=
  evP_sound (P := Tryz.prog) mixed tabOK lanternref03_Sqr.fnsOK Tryz.func91 rfl (Λ := noLoops) (c := Tryz.f91.body.getD .skip) rfl (noLoopsOK _) rfl (Nat.zero_le 1) rfl rfl ((lanternref03_Sqr.ev M0 (lanternref02_Sqr M0) (lanternref02_Sqr.ok M0) (lanternref03_Sum M0) (lanternref03_Sum.ok M0) a).trans (lanternref03_Sqr.k_eq M0 a _ h))
def lanternref03_Sqr.ph (c91 : LV3 → LSpan) (c91ok : LV3 → Bool) : Ph := fun args => match args with
  | [.agg ⟨[.float .f64 a0_0, .float .f64 a0_1, .float .f64 a0_2, .float .f64 a0_3, .float .f64 a0_4, .float .f64 a0_5]⟩] => some (c91ok (⟨⟨a0_0, a0_1⟩, ⟨a0_2, a0_3⟩, ⟨a0_4, a0_5⟩⟩ : LV3), (c91 (⟨⟨a0_0, a0_1⟩, ⟨a0_2, a0_3⟩, ⟨a0_4, a0_5⟩⟩ : LV3)).val)
  | _ => none
theorem lanternref03_Sqr.phOK : PhOK Tryz.prog 91 (lanternref03_Sqr.ph (lanternref03_Sqr M0) (lanternref03_Sqr.ok M0)) := ⟨by
  intro args v h
  unfold lanternref03_Sqr.ph at h
  split at h
  · rename_i a0_0 a0_1 a0_2 a0_3 a0_4 a0_5
    simp only [Option.some.injEq, Prod.mk.injEq] at h
    obtain ⟨hok, rfl⟩ := h
    exact ⟨rfl, rfl, lanternref03_Sqr.call (⟨⟨a0_0, a0_1⟩, ⟨a0_2, a0_3⟩, ⟨a0_4, a0_5⟩⟩ : LV3) hok⟩
  · cases h⟩
def lanternref01_Sqrt.L13.k {ρ : Type} (M : Prims) (_ : Nat → Bool) (_ : Nat → LWord × Bool) (_ : Nat → Bool) (c145 : Int → Int → Int × Int) (_ : LWord → Bool → Bool → Nat) (_ : LWord → Bool → Bool → Bool) (_ : LWord → Int → LWord) (_ : LWord → Int → Bool) (_ : LWord → Int) (c152 : LWord → LWord → Bool) (s : Bool × Int × Int × Int × Int × Int × Bool) (kn kx : (Bool × Int × Int × Int × Int × Int × Bool) → Option ρ) : Option ρ :=
  cond (decide (s.2.2.1 ≥ 0))
    (cond (decide (0 ≤ s.2.2.1))
       (let x14 := M.or .u64 s.2.1 (shlV .u64 1 s.2.2.1)
        let x15 := c145 x14 x14
        cond (!(c152 (⟨s.2.2.2.1, s.2.2.2.2.1, 0, false⟩ : LWord) (⟨x15.1, x15.2, 0, false⟩ : LWord)))
          (kn (s.1, x14, (IntKind.i64.wrap (s.2.2.1 - 1)), s.2.2.2.1, s.2.2.2.2.1, s.2.2.2.2.2.1, s.2.2.2.2.2.2))
          (kn (s.1, s.2.1, (IntKind.i64.wrap (s.2.2.1 - 1)), s.2.2.2.1, s.2.2.2.2.1, s.2.2.2.2.2.1, s.2.2.2.2.2.2)))
       (none))
    (kx (s.1, s.2.1, s.2.2.1, s.2.2.2.1, s.2.2.2.2.1, s.2.2.2.2.2.1, s.2.2.2.2.2.2))
def lanternref01_Sqrt.L13.step (M : Prims) (s : Bool × Int × Int × Int × Int × Int × Bool) : Option (Bool × (Bool × Int × Int × Int × Int × Int × Bool)) := lanternref01_Sqrt.L13.k M (lanternref01_Number M) (lanternref01_Part M) (lanternref01_Part.ok M) (lanternref01_Times M) (lanternref01_To M) (lanternref01_To.ok M) (lanternref01_Up M) (lanternref01_Up.ok M) (lanternref01_Length M) (lanternref01_below M) s (fun t => some (true, t)) (fun t => some (false, t))
def lanternref01_Sqrt.L13 (M : Prims) (a0 : Bool) (a1 : Int) (a2 : Int) (a3 : Int) (a4 : Int) (a5 : Int) (a6 : Bool) : Bool × Int × Int × Int × Int × Int × Bool := (runL (lanternref01_Sqrt.L13.step M) (60) (a0, a1, a2, a3, a4, a5, a6)).getD (a0, a1, a2, a3, a4, a5, a6)
def lanternref01_Sqrt.L13.ok (M : Prims) (a0 : Bool) (a1 : Int) (a2 : Int) (a3 : Int) (a4 : Int) (a5 : Int) (a6 : Bool) : Bool := (runL (lanternref01_Sqrt.L13.step M) (60) (a0, a1, a2, a3, a4, a5, a6)).isSome
def lanternref01_Sqrt.L13.H (s : Bool × Int × Int × Int × Int × Int × Bool) : Hp := [([.int .u64 s.2.2.2.1, .int .u64 s.2.2.2.2.1, .int .i64 s.2.2.2.2.2.1, .bool s.2.2.2.2.2.2], 153)]
def lanternref01_Sqrt.L13.vals (s : Bool × Int × Int × Int × Int × Int × Bool) : List (Nat × Value) := [(1, .bool s.1), (6, .pointer (some ⟨0, 0, none⟩)), (8, .int .u64 s.2.1), (9, .int .i64 s.2.2.1)]
def lanternref01_Sqrt.L13.asgL : List Nat := [38, 39, 42, 43, 44, 45, 10, 47, 48, 49, 46, 50, 51, 11, 12, 52, 53, 54, 55, 56, 57, 58, 59, 60, 61, 62, 8, 40, 41, 9]
noncomputable def lanternref01_Sqrt.L13.body : Code := (nth (loopsOf (Tryz.f105.body.getD .skip)) 0).getD .skip
def lanternref01_Sqrt.k (M : Prims) (c100 : Nat → Bool) (c144 : Nat → LWord × Bool) (c144ok : Nat → Bool) (c145 : Int → Int → Int × Int) (c146 : LWord → Bool → Bool → Nat) (c146ok : LWord → Bool → Bool → Bool) (c150 : LWord → Int → LWord) (c150ok : LWord → Int → Bool) (c151 : LWord → Int) (_ : LWord → LWord → Bool) (l13 : Bool → Int → Int → Int → Int → Int → Bool → Bool × Int × Int × Int × Int × Int × Bool) (l13ok : Bool → Int → Int → Int → Int → Int → Bool → Bool) (x : Nat) (down : Bool) (k : Nat × Int → R) : R :=
  cond (!(c100 x))
    (k (0, 10))
    (cond (M.lt x 0)
       (k (0, 12))
       (cond (M.eq x 0)
          (k (0, 0))
          (let x5 := c144 x
           cond (c144ok x)
             (let x7 := IntKind.i64.wrap (115 - (c151 x5.1))
              let x8 := c150 x5.1 x7
              cond (c150ok x5.1 x7)
                (cond (((Int.tmod x8.e 2) : Int) != 0)
                   (let x11 := c150 x8 1
                    cond (c150ok x8 1)
                      (let x20 := l13 down 0 57 x11.hi x11.lo x11.e x11.more
                       cond (l13ok down 0 57 x11.hi x11.lo x11.e x11.more)
                         (let x21 := c145 x20.2.1 x20.2.1
                          let x22 := IntKind.i64.wrap (Int.tdiv x20.2.2.2.2.2.1 2)
                          cond ((x21.1 : Int) != x20.2.2.2.1)
                            (cond (c146ok (⟨0, x20.2.1, x22, true⟩ : LWord) false x20.1)
                               (k ((c146 (⟨0, x20.2.1, x22, true⟩ : LWord) false x20.1), 0))
                               (none))
                            (let x25 := (x21.2 : Int) != x20.2.2.2.2.1
                             cond (c146ok (⟨0, x20.2.1, x22, x25⟩ : LWord) false x20.1)
                               (k ((c146 (⟨0, x20.2.1, x22, x25⟩ : LWord) false x20.1), 0))
                               (none)))
                         (none))
                      (none))
                   (let x27 := l13 down 0 57 x8.hi x8.lo x8.e x8.more
                    cond (l13ok down 0 57 x8.hi x8.lo x8.e x8.more)
                      (let x28 := c145 x27.2.1 x27.2.1
                       let x29 := IntKind.i64.wrap (Int.tdiv x27.2.2.2.2.2.1 2)
                       cond ((x28.1 : Int) != x27.2.2.2.1)
                         (cond (c146ok (⟨0, x27.2.1, x29, true⟩ : LWord) false x27.1)
                            (k ((c146 (⟨0, x27.2.1, x29, true⟩ : LWord) false x27.1), 0))
                            (none))
                         (let x32 := (x28.2 : Int) != x27.2.2.2.2.1
                          cond (c146ok (⟨0, x27.2.1, x29, x32⟩ : LWord) false x27.1)
                            (k ((c146 (⟨0, x27.2.1, x29, x32⟩ : LWord) false x27.1), 0))
                            (none)))
                      (none)))
                (none))
             (none))))
def lanternref01_Sqrt (M : Prims) (x : Nat) (down : Bool) : Nat × Int :=
  cond (!(lanternref01_Number M x))
    ((0, 10))
    (cond (M.lt x 0)
       ((0, 12))
       (cond (M.eq x 0)
          ((0, 0))
          (let x5 := lanternref01_Part M x
           let x8 := lanternref01_Up M x5.1 (IntKind.i64.wrap (115 - (lanternref01_Length M x5.1)))
           cond (((Int.tmod x8.e 2) : Int) != 0)
             (let x11 := lanternref01_Up M x8 1
              let x20 := lanternref01_Sqrt.L13 M down 0 57 x11.hi x11.lo x11.e x11.more
              let x21 := lanternref01_Times M x20.2.1 x20.2.1
              let x22 := IntKind.i64.wrap (Int.tdiv x20.2.2.2.2.2.1 2)
              cond ((x21.1 : Int) != x20.2.2.2.1)
                (((lanternref01_To M (⟨0, x20.2.1, x22, true⟩ : LWord) false x20.1), 0))
                (((lanternref01_To M (⟨0, x20.2.1, x22, ((x21.2 : Int) != x20.2.2.2.2.1)⟩ : LWord) false x20.1), 0)))
             (let x27 := lanternref01_Sqrt.L13 M down 0 57 x8.hi x8.lo x8.e x8.more
              let x28 := lanternref01_Times M x27.2.1 x27.2.1
              let x29 := IntKind.i64.wrap (Int.tdiv x27.2.2.2.2.2.1 2)
              cond ((x28.1 : Int) != x27.2.2.2.1)
                (((lanternref01_To M (⟨0, x27.2.1, x29, true⟩ : LWord) false x27.1), 0))
                (((lanternref01_To M (⟨0, x27.2.1, x29, ((x28.2 : Int) != x27.2.2.2.2.1)⟩ : LWord) false x27.1), 0))))))
def lanternref01_Sqrt.ok (M : Prims) (x : Nat) (down : Bool) : Bool :=
  cond (!(lanternref01_Number M x))
    (true)
    (cond (M.lt x 0)
       (true)
       (cond (M.eq x 0)
          (true)
          (let x5 := lanternref01_Part M x
           cond (lanternref01_Part.ok M x)
             (let x7 := IntKind.i64.wrap (115 - (lanternref01_Length M x5.1))
              let x8 := lanternref01_Up M x5.1 x7
              cond (lanternref01_Up.ok M x5.1 x7)
                (cond (((Int.tmod x8.e 2) : Int) != 0)
                   (let x11 := lanternref01_Up M x8 1
                    cond (lanternref01_Up.ok M x8 1)
                      (let x20 := lanternref01_Sqrt.L13 M down 0 57 x11.hi x11.lo x11.e x11.more
                       cond (lanternref01_Sqrt.L13.ok M down 0 57 x11.hi x11.lo x11.e x11.more)
                         (let x21 := lanternref01_Times M x20.2.1 x20.2.1
                          let x22 := IntKind.i64.wrap (Int.tdiv x20.2.2.2.2.2.1 2)
                          cond ((x21.1 : Int) != x20.2.2.2.1)
                            (cond (lanternref01_To.ok M (⟨0, x20.2.1, x22, true⟩ : LWord) false x20.1)
                               (true)
                               (false))
                            (cond (lanternref01_To.ok M (⟨0, x20.2.1, x22, ((x21.2 : Int) != x20.2.2.2.2.1)⟩ : LWord) false x20.1)
                               (true)
                               (false)))
                         (false))
                      (false))
                   (let x27 := lanternref01_Sqrt.L13 M down 0 57 x8.hi x8.lo x8.e x8.more
                    cond (lanternref01_Sqrt.L13.ok M down 0 57 x8.hi x8.lo x8.e x8.more)
                      (let x28 := lanternref01_Times M x27.2.1 x27.2.1
                       let x29 := IntKind.i64.wrap (Int.tdiv x27.2.2.2.2.2.1 2)
                       cond ((x28.1 : Int) != x27.2.2.2.1)
                         (cond (lanternref01_To.ok M (⟨0, x27.2.1, x29, true⟩ : LWord) false x27.1)
                            (true)
                            (false))
                         (cond (lanternref01_To.ok M (⟨0, x27.2.1, x29, ((x28.2 : Int) != x27.2.2.2.2.1)⟩ : LWord) false x27.1)
                            (true)
                            (false)))
                      (false)))
                (false))
             (false))))
def lanternref01_Sqrt.fns (c100 : Nat → Bool) (c144 : Nat → LWord × Bool) (c144ok : Nat → Bool) (c145 : Int → Int → Int × Int) (c146 : LWord → Bool → Bool → Nat) (c146ok : LWord → Bool → Bool → Bool) (c150 : LWord → Int → LWord) (c150ok : LWord → Int → Bool) (c151 : LWord → Int) (c152 : LWord → LWord → Bool) : FuncId → List Value → Option (Bool × Value) := ifId 100 (lanternref01_Number.ph c100) <| ifId 144 (lanternref01_Part.ph c144 c144ok) <| ifId 145 (lanternref01_Times.ph c145) <| ifId 146 (lanternref01_To.ph c146 c146ok) <| ifId 150 (lanternref01_Up.ph c150 c150ok) <| ifId 151 (lanternref01_Length.ph c151) <| ifId 152 (lanternref01_below.ph c152) <| noFns
def lanternref01_Sqrt.L13.at (l : Bool → Int → Int → Int → Int → Int → Bool → Bool × Int × Int × Int × Int × Int × Bool) (lok : Bool → Int → Int → Int → Int → Int → Bool → Bool) (e : Env) (h : Hp) : Option (Bool × Nat × Env × Hp) :=
  match keysLt 86 e, getE e 1, getE e 6, getE e 8, getE e 9, h with
  | true, .bool a0, .pointer (some ⟨0, 0, none⟩), .int .u64 a1, .int .i64 a2, [([.int .u64 a3, .int .u64 a4, .int .i64 a5, .bool a6], 153)] => some (lok a0 a1 a2 a3 a4 a5 a6, 0, mkE (lanternref01_Sqrt.L13.vals (l a0 a1 a2 a3 a4 a5 a6)) lanternref01_Sqrt.L13.asgL (getE e) (upTo 86 0), (lanternref01_Sqrt.L13.H (l a0 a1 a2 a3 a4 a5 a6)))
  | _, _, _, _, _, _ => none
def lanternref01_Sqrt.lps (l13 : Bool → Int → Int → Int → Int → Int → Bool → Bool × Int × Int × Int × Int × Int × Bool) (l13ok : Bool → Int → Int → Int → Int → Int → Bool → Bool) : Loops := fun key e h => match key with
  | 13 => lanternref01_Sqrt.L13.at l13 l13ok e h
  | _ => none
theorem lanternref01_Sqrt.L13.ev (M : Prims) (c100 : Nat → Bool) (c144 : Nat → LWord × Bool) (c144ok : Nat → Bool) (c145 : Int → Int → Int × Int) (c146 : LWord → Bool → Bool → Nat) (c146ok : LWord → Bool → Bool → Bool) (c150 : LWord → Int → LWord) (c150ok : LWord → Int → Bool) (c151 : LWord → Int) (c152 : LWord → LWord → Bool) (l13 : Bool → Int → Int → Int → Int → Int → Bool → Bool × Int × Int × Int × Int × Int × Bool) (l13ok : Bool → Int → Int → Int → Int → Int → Bool → Bool) (b : Nat → Value) (s : Bool × Int × Int × Int × Int × Int × Bool) : ev tab M (pureFns (lanternref01_Sqrt.fns c100 c144 c144ok c145 c146 c146ok c150 c150ok c151 c152)) (lanternref01_Sqrt.lps l13 l13ok) true 86 60 lanternref01_Sqrt.L13.body (mkE (lanternref01_Sqrt.L13.vals s) lanternref01_Sqrt.L13.asgL b (upTo 86 0)) (lanternref01_Sqrt.L13.H s) (fun o e h => some (o, getEs e [1, 6, 8, 9], h)) = lanternref01_Sqrt.L13.k M c100 c144 c144ok c145 c146 c146ok c150 c150ok c151 c152 s (fun t => some (.norm, sndL (lanternref01_Sqrt.L13.vals t), (lanternref01_Sqrt.L13.H t))) (fun t => some (.exit 0, sndL (lanternref01_Sqrt.L13.vals t), (lanternref01_Sqrt.L13.H t))) := by kernel_rfl
theorem lanternref01_Sqrt.L13.nat {ρ : Type} (M : Prims) (s s2 : Bool × Int × Int × Int × Int × Int × Bool) (g : Bool) (kn kx : (Bool × Int × Int × Int × Int × Int × Bool) → Option ρ) : lanternref01_Sqrt.L13.step M s = some (g, s2) → lanternref01_Sqrt.L13.k M (lanternref01_Number M) (lanternref01_Part M) (lanternref01_Part.ok M) (lanternref01_Times M) (lanternref01_To M) (lanternref01_To.ok M) (lanternref01_Up M) (lanternref01_Up.ok M) (lanternref01_Length M) (lanternref01_below M) s kn kx = cond g (kn s2) (kx s2) := by
  unfold lanternref01_Sqrt.L13.step lanternref01_Sqrt.L13.k
  exact nC (nC (nC nN nN) nD) nX
theorem lanternref01_Sqrt.fnsOK : PureFns Tryz.prog (lanternref01_Sqrt.fns (lanternref01_Number M0) (lanternref01_Part M0) (lanternref01_Part.ok M0) (lanternref01_Times M0) (lanternref01_To M0) (lanternref01_To.ok M0) (lanternref01_Up M0) (lanternref01_Up.ok M0) (lanternref01_Length M0) (lanternref01_below M0)) := ifIdOK lanternref01_Number.phOK <| ifIdOK lanternref01_Part.phOK <| ifIdOK lanternref01_Times.phOK <| ifIdOK lanternref01_To.phOK <| ifIdOK lanternref01_Up.phOK <| ifIdOK lanternref01_Length.phOK <| ifIdOK lanternref01_below.phOK <| noFnsOK
theorem lanternref01_Sqrt.L13.isOK : LoopOK Tryz.prog 86 (lanternref01_Sqrt.lps (lanternref01_Sqrt.L13 M0) (lanternref01_Sqrt.L13.ok M0)) lanternref01_Sqrt.L13.body := by
  intro e h x e2 h2 hL0
  rw [show keyOf lanternref01_Sqrt.L13.body = 13 from by kernel_rfl] at hL0
  have hL : lanternref01_Sqrt.L13.at (lanternref01_Sqrt.L13 M0) (lanternref01_Sqrt.L13.ok M0) e h = some (true, x, e2, h2) := hL0
  unfold lanternref01_Sqrt.L13.at at hL
  split at hL
  · rename_i a0 a1 a2 a3 a4 a5 a6 hk e0 e1 e2 e3
    simp only [Option.some.injEq, Prod.mk.injEq] at hL
    obtain ⟨hok, rfl, rfl, rfl⟩ := hL
    obtain ⟨s2, hs⟩ := Option.isSome_iff_exists.1 hok
    unfold lanternref01_Sqrt.L13
    rw [hs]
    refine loop_rounds_mem (P := Tryz.prog) (T := tab) (Φ := pureFns (lanternref01_Sqrt.fns (lanternref01_Number M0) (lanternref01_Part M0) (lanternref01_Part.ok M0) (lanternref01_Times M0) (lanternref01_To M0) (lanternref01_To.ok M0) (lanternref01_Up M0) (lanternref01_Up.ok M0) (lanternref01_Length M0) (lanternref01_below M0))) (pc := true) (Λ := (lanternref01_Sqrt.lps (lanternref01_Sqrt.L13 M0) (lanternref01_Sqrt.L13.ok M0))) (setting_pure (P := Tryz.prog) mixed tabOK lanternref01_Sqrt.fnsOK) (c := lanternref01_Sqrt.L13.body) (by rw [show loopsOf lanternref01_Sqrt.L13.body = [] from by kernel_rfl]; exact trivial) (by rw [show loopsOf lanternref01_Sqrt.L13.body = [] from by kernel_rfl]; exact trivial) (lanternref01_Sqrt.L13.step M0) lanternref01_Sqrt.L13.vals lanternref01_Sqrt.L13.H [1, 6, 8, 9] (fun _ => rfl) 0 60 (asg := lanternref01_Sqrt.L13.asgL) (by kernel_rfl) ?_ (by kernel_rfl) _ (a0, a1, a2, a3, a4, a5, a6) _ e hs hk ?_
    · intro b s s2 g hst
      refine (lanternref01_Sqrt.L13.ev M0 (lanternref01_Number M0) (lanternref01_Part M0) (lanternref01_Part.ok M0) (lanternref01_Times M0) (lanternref01_To M0) (lanternref01_To.ok M0) (lanternref01_Up M0) (lanternref01_Up.ok M0) (lanternref01_Length M0) (lanternref01_below M0) (lanternref01_Sqrt.L13 M0) (lanternref01_Sqrt.L13.ok M0) b s).trans ((lanternref01_Sqrt.L13.nat M0 s s2 g _ _ hst).trans ?_)
      cases g <;> rfl
    · intro p hp
      simp only [lanternref01_Sqrt.L13.vals, List.mem_cons, List.not_mem_nil, or_false] at hp
      rcases hp with rfl | rfl | rfl | rfl <;> assumption
  · cases hL
theorem lanternref01_Sqrt.lpsOK : LoopsOK Tryz.prog 86 (lanternref01_Sqrt.lps (lanternref01_Sqrt.L13 M0) (lanternref01_Sqrt.L13.ok M0)) (loopsOf (Tryz.f105.body.getD .skip)) := by
  rw [show loopsOf (Tryz.f105.body.getD .skip) = [lanternref01_Sqrt.L13.body] from by kernel_rfl]
  exact ⟨lanternref01_Sqrt.L13.isOK, trivial⟩
theorem lanternref01_Sqrt.ev (M : Prims) (c100 : Nat → Bool) (c144 : Nat → LWord × Bool) (c144ok : Nat → Bool) (c145 : Int → Int → Int × Int) (c146 : LWord → Bool → Bool → Nat) (c146ok : LWord → Bool → Bool → Bool) (c150 : LWord → Int → LWord) (c150ok : LWord → Int → Bool) (c151 : LWord → Int) (c152 : LWord → LWord → Bool) (l13 : Bool → Int → Int → Int → Int → Int → Bool → Bool × Int × Int × Int × Int × Int × Bool) (l13ok : Bool → Int → Int → Int → Int → Int → Bool → Bool) (x : Nat) (down : Bool) : evP tab M (lanternref01_Sqrt.fns c100 c144 c144ok c145 c146 c146ok c150 c150ok c151 c152) (lanternref01_Sqrt.lps l13 l13ok) 300 Tryz.f105 [(.float .f64 x), (.bool down)] = lanternref01_Sqrt.k M c100 c144 c144ok c145 c146 c146ok c150 c150ok c151 c152 l13 l13ok x down (fun r => some (.tuple ⟨[(.float .f64 r.1), (.int .i64 r.2)]⟩, [])) := by kernel_rfl
theorem lanternref01_Sqrt.k_eq (M : Prims) (x : Nat) (down : Bool) (k : Nat × Int → R) : lanternref01_Sqrt.ok M x down = true → lanternref01_Sqrt.k M (lanternref01_Number M) (lanternref01_Part M) (lanternref01_Part.ok M) (lanternref01_Times M) (lanternref01_To M) (lanternref01_To.ok M) (lanternref01_Up M) (lanternref01_Up.ok M) (lanternref01_Length M) (lanternref01_below M) (lanternref01_Sqrt.L13 M) (lanternref01_Sqrt.L13.ok M) x down k = k (lanternref01_Sqrt M x down) := by
  unfold lanternref01_Sqrt.ok lanternref01_Sqrt.k lanternref01_Sqrt
  exact kC (fun _ => rfl) (kC (fun _ => rfl) (kC (fun _ => rfl) (kL (kL (kC (kL (kL (kC (kL (fun _ => rfl)) (kL (fun _ => rfl))))) (kL (kC (kL (fun _ => rfl)) (kL (fun _ => rfl)))))))))
theorem lanternref01_Sqrt.call (x : Nat) (down : Bool) (h : lanternref01_Sqrt.ok M0 x down = true) : PureOK Tryz.prog 105 [(.float .f64 x), (.bool down)] (.tuple ⟨[(.float .f64 ((lanternref01_Sqrt M0 x down).1)), (.int .i64 ((lanternref01_Sqrt M0 x down).2))]⟩) :=
  evP_sound (P := Tryz.prog) mixed tabOK lanternref01_Sqrt.fnsOK Tryz.func105 rfl (Λ := (lanternref01_Sqrt.lps (lanternref01_Sqrt.L13 M0) (lanternref01_Sqrt.L13.ok M0))) (c := Tryz.f105.body.getD .skip) rfl lanternref01_Sqrt.lpsOK rfl (Nat.zero_le 1) rfl rfl ((lanternref01_Sqrt.ev M0 (lanternref01_Number M0) (lanternref01_Part M0) (lanternref01_Part.ok M0) (lanternref01_Times M0) (lanternref01_To M0) (lanternref01_To.ok M0) (lanternref01_Up M0) (lanternref01_Up.ok M0) (lanternref01_Length M0) (lanternref01_below M0) (lanternref01_Sqrt.L13 M0) (lanternref01_Sqrt.L13.ok M0) x down).trans (lanternref01_Sqrt.k_eq M0 x down _ h))
def lanternref01_Sqrt.ph (c105 : Nat → Bool → Nat × Int) (c105ok : Nat → Bool → Bool) : Ph := fun args => match args with
  | [.float .f64 a0_, .bool a1_] => some (c105ok a0_ a1_, .tuple ⟨[(.float .f64 ((c105 a0_ a1_).1)), (.int .i64 ((c105 a0_ a1_).2))]⟩)
  | _ => none
theorem lanternref01_Sqrt.phOK : PhOK Tryz.prog 105 (lanternref01_Sqrt.ph (lanternref01_Sqrt M0) (lanternref01_Sqrt.ok M0)) := ⟨by
  intro args v h
  unfold lanternref01_Sqrt.ph at h
  split at h
  · rename_i a0_ a1_
    simp only [Option.some.injEq, Prod.mk.injEq] at h
    obtain ⟨hok, rfl⟩ := h
    exact ⟨rfl, rfl, lanternref01_Sqrt.call a0_ a1_ hok⟩
  · cases h⟩
def lanternref02_Sqrt.k (M : Prims) (c105 : Nat → Bool → Nat × Int) (c105ok : Nat → Bool → Bool) (c70 : LSpan) (c98 : LSpan → Bool) (a : LSpan) (k : LSpan → R) : R :=
  cond (M.lt a.hi 0)
    (k c70)
    (cond (c98 a)
       (k c70)
       (cond (M.gt a.lo 0)
          (cond (c105ok a.lo true)
             (cond (c105ok a.hi false)
                (k (⟨(c105 a.lo true).1, (c105 a.hi false).1⟩ : LSpan))
                (none))
             (none))
          (cond (c105ok a.hi false)
             (k (⟨0, (c105 a.hi false).1⟩ : LSpan))
             (none))))
def lanternref02_Sqrt (M : Prims) (a : LSpan) : LSpan :=
  cond (M.lt a.hi 0)
    ((lanternref02_All M))
    (cond (lanternref02_Wide M a)
       ((lanternref02_All M))
       (cond (M.gt a.lo 0)
          ((⟨(lanternref01_Sqrt M a.lo true).1, (lanternref01_Sqrt M a.hi false).1⟩ : LSpan))
          ((⟨0, (lanternref01_Sqrt M a.hi false).1⟩ : LSpan))))
def lanternref02_Sqrt.ok (M : Prims) (a : LSpan) : Bool :=
  cond (M.lt a.hi 0)
    (true)
    (cond (lanternref02_Wide M a)
       (true)
       (cond (M.gt a.lo 0)
          (cond (lanternref01_Sqrt.ok M a.lo true)
             (cond (lanternref01_Sqrt.ok M a.hi false)
                (true)
                (false))
             (false))
          (cond (lanternref01_Sqrt.ok M a.hi false)
             (true)
             (false))))
def lanternref02_Sqrt.fns (c105 : Nat → Bool → Nat × Int) (c105ok : Nat → Bool → Bool) (c70 : LSpan) (c98 : LSpan → Bool) : FuncId → List Value → Option (Bool × Value) := ifId 105 (lanternref01_Sqrt.ph c105 c105ok) <| ifId 70 (lanternref02_All.ph c70) <| ifId 98 (lanternref02_Wide.ph c98) <| noFns
theorem lanternref02_Sqrt.fnsOK : PureFns Tryz.prog (lanternref02_Sqrt.fns (lanternref01_Sqrt M0) (lanternref01_Sqrt.ok M0) (lanternref02_All M0) (lanternref02_Wide M0)) := ifIdOK lanternref01_Sqrt.phOK <| ifIdOK lanternref02_All.phOK <| ifIdOK lanternref02_Wide.phOK <| noFnsOK
theorem lanternref02_Sqrt.ev (M : Prims) (c105 : Nat → Bool → Nat × Int) (c105ok : Nat → Bool → Bool) (c70 : LSpan) (c98 : LSpan → Bool)  (a : LSpan) : evP tab M (lanternref02_Sqrt.fns c105 c105ok c70 c98) noLoops 300 Tryz.f57 [a.val] = lanternref02_Sqrt.k M c105 c105ok c70 c98  a (fun r => some (r.val, [])) := by kernel_rfl
theorem lanternref02_Sqrt.k_eq (M : Prims) (a : LSpan) (k : LSpan → R) : lanternref02_Sqrt.ok M a = true → lanternref02_Sqrt.k M (lanternref01_Sqrt M) (lanternref01_Sqrt.ok M) (lanternref02_All M) (lanternref02_Wide M) a k = k (lanternref02_Sqrt M a) := by
  unfold lanternref02_Sqrt.ok lanternref02_Sqrt.k lanternref02_Sqrt
  exact kC (fun _ => rfl) (kC (fun _ => rfl) (kC (kL (kL (fun _ => rfl))) (kL (fun _ => rfl))))
theorem lanternref02_Sqrt.call (a : LSpan) (h : lanternref02_Sqrt.ok M0 a = true) : PureOK Tryz.prog 57 [a.val] ((lanternref02_Sqrt M0 a).val) :=
  evP_sound (P := Tryz.prog) mixed tabOK lanternref02_Sqrt.fnsOK Tryz.func57 rfl (Λ := noLoops) (c := Tryz.f57.body.getD .skip) rfl (noLoopsOK _) rfl (Nat.zero_le 1) rfl rfl ((lanternref02_Sqrt.ev M0 (lanternref01_Sqrt M0) (lanternref01_Sqrt.ok M0) (lanternref02_All M0) (lanternref02_Wide M0) a).trans (lanternref02_Sqrt.k_eq M0 a _ h))
def lanternref02_Sqrt.ph (c57 : LSpan → LSpan) (c57ok : LSpan → Bool) : Ph := fun args => match args with
  | [.agg ⟨[.float .f64 a0_0, .float .f64 a0_1]⟩] => some (c57ok (⟨a0_0, a0_1⟩ : LSpan), (c57 (⟨a0_0, a0_1⟩ : LSpan)).val)
  | _ => none
theorem lanternref02_Sqrt.phOK : PhOK Tryz.prog 57 (lanternref02_Sqrt.ph (lanternref02_Sqrt M0) (lanternref02_Sqrt.ok M0)) := ⟨by
  intro args v h
  unfold lanternref02_Sqrt.ph at h
  split at h
  · rename_i a0_0 a0_1
    simp only [Option.some.injEq, Prod.mk.injEq] at h
    obtain ⟨hok, rfl⟩ := h
    exact ⟨rfl, rfl, lanternref02_Sqrt.call (⟨a0_0, a0_1⟩ : LSpan) hok⟩
  · cases h⟩
end Go.Lan

namespace Go.Lan
open Go.Proofs
def lanternref01_Div.L14.k {ρ : Type} (M : Prims) (_ : Nat → Bool) (_ : Nat → LWord × Bool) (_ : Nat → Bool) (_ : LWord → Bool → Bool → Nat) (_ : LWord → Bool → Bool → Bool) (_ : LWord → Int → LWord) (_ : LWord → Int → Bool) (_ : LWord → Int) (s : Bool × Bool × Bool × Int × Int × Int × Int × Int × Int × Bool × Int × Int × Int × Bool) (kn kx : (Bool × Bool × Bool × Int × Int × Int × Int × Int × Int × Bool × Int × Int × Int × Bool) → Option ρ) : Option ρ :=
  cond (decide (s.2.2.2.2.2.1 < 60))
    (let x16 := shlV .u64 s.2.2.2.2.1 1
     cond (decide (s.2.2.2.1 ≥ s.2.2.2.2.2.2.2.2.2.2.2.1))
       (kn (s.1, s.2.1, s.2.2.1, (shlV .u64 (IntKind.u64.wrap (s.2.2.2.1 - s.2.2.2.2.2.2.2.2.2.2.2.1)) 1), (M.or .u64 x16 1), (IntKind.i64.wrap (s.2.2.2.2.2.1 + 1)), s.2.2.2.2.2.2.1, s.2.2.2.2.2.2.2.1, s.2.2.2.2.2.2.2.2.1, s.2.2.2.2.2.2.2.2.2.1, s.2.2.2.2.2.2.2.2.2.2.1, s.2.2.2.2.2.2.2.2.2.2.2.1, s.2.2.2.2.2.2.2.2.2.2.2.2.1, s.2.2.2.2.2.2.2.2.2.2.2.2.2))
       (kn (s.1, s.2.1, s.2.2.1, (shlV .u64 s.2.2.2.1 1), x16, (IntKind.i64.wrap (s.2.2.2.2.2.1 + 1)), s.2.2.2.2.2.2.1, s.2.2.2.2.2.2.2.1, s.2.2.2.2.2.2.2.2.1, s.2.2.2.2.2.2.2.2.2.1, s.2.2.2.2.2.2.2.2.2.2.1, s.2.2.2.2.2.2.2.2.2.2.2.1, s.2.2.2.2.2.2.2.2.2.2.2.2.1, s.2.2.2.2.2.2.2.2.2.2.2.2.2)))
    (kx (s.1, s.2.1, s.2.2.1, s.2.2.2.1, s.2.2.2.2.1, s.2.2.2.2.2.1, s.2.2.2.2.2.2.1, s.2.2.2.2.2.2.2.1, s.2.2.2.2.2.2.2.2.1, s.2.2.2.2.2.2.2.2.2.1, s.2.2.2.2.2.2.2.2.2.2.1, s.2.2.2.2.2.2.2.2.2.2.2.1, s.2.2.2.2.2.2.2.2.2.2.2.2.1, s.2.2.2.2.2.2.2.2.2.2.2.2.2))
def lanternref01_Div.L14.step (M : Prims) (s : Bool × Bool × Bool × Int × Int × Int × Int × Int × Int × Bool × Int × Int × Int × Bool) : Option (Bool × (Bool × Bool × Bool × Int × Int × Int × Int × Int × Int × Bool × Int × Int × Int × Bool)) := lanternref01_Div.L14.k M (lanternref01_Number M) (lanternref01_Part M) (lanternref01_Part.ok M) (lanternref01_To M) (lanternref01_To.ok M) (lanternref01_Up M) (lanternref01_Up.ok M) (lanternref01_Length M) s (fun t => some (true, t)) (fun t => some (false, t))
def lanternref01_Div.L14 (M : Prims) (a0 : Bool) (a1 : Bool) (a2 : Bool) (a3 : Int) (a4 : Int) (a5 : Int) (a6 : Int) (a7 : Int) (a8 : Int) (a9 : Bool) (a10 : Int) (a11 : Int) (a12 : Int) (a13 : Bool) : Bool × Bool × Bool × Int × Int × Int × Int × Int × Int × Bool × Int × Int × Int × Bool := (runL (lanternref01_Div.L14.step M) (62) (a0, a1, a2, a3, a4, a5, a6, a7, a8, a9, a10, a11, a12, a13)).getD (a0, a1, a2, a3, a4, a5, a6, a7, a8, a9, a10, a11, a12, a13)
def lanternref01_Div.L14.ok (M : Prims) (a0 : Bool) (a1 : Bool) (a2 : Bool) (a3 : Int) (a4 : Int) (a5 : Int) (a6 : Int) (a7 : Int) (a8 : Int) (a9 : Bool) (a10 : Int) (a11 : Int) (a12 : Int) (a13 : Bool) : Bool := (runL (lanternref01_Div.L14.step M) (62) (a0, a1, a2, a3, a4, a5, a6, a7, a8, a9, a10, a11, a12, a13)).isSome
def lanternref01_Div.L14.H (s : Bool × Bool × Bool × Int × Int × Int × Int × Int × Int × Bool × Int × Int × Int × Bool) : Hp := [([.int .u64 s.2.2.2.2.2.2.1, .int .u64 s.2.2.2.2.2.2.2.1, .int .i64 s.2.2.2.2.2.2.2.2.1, .bool s.2.2.2.2.2.2.2.2.2.1], 153), ([.int .u64 s.2.2.2.2.2.2.2.2.2.2.1, .int .u64 s.2.2.2.2.2.2.2.2.2.2.2.1, .int .i64 s.2.2.2.2.2.2.2.2.2.2.2.2.1, .bool s.2.2.2.2.2.2.2.2.2.2.2.2.2], 153)]
def lanternref01_Div.L14.vals (s : Bool × Bool × Bool × Int × Int × Int × Int × Int × Int × Bool × Int × Int × Int × Bool) : List (Nat × Value) := [(2, .bool s.1), (8, .pointer (some ⟨0, 0, none⟩)), (9, .bool s.2.1), (10, .pointer (some ⟨1, 0, none⟩)), (11, .bool s.2.2.1), (12, .int .u64 s.2.2.2.1), (13, .int .u64 s.2.2.2.2.1), (14, .int .i64 s.2.2.2.2.2.1)]
def lanternref01_Div.L14.asgL : List Nat := [49, 50, 53, 54, 13, 55, 56, 57, 58, 59, 60, 61, 62, 12, 63, 64, 13, 65, 66, 12, 51, 52, 14]
noncomputable def lanternref01_Div.L14.body : Code := (nth (loopsOf (Tryz.f117.body.getD .skip)) 0).getD .skip
def lanternref01_Div.k (M : Prims) (c100 : Nat → Bool) (c144 : Nat → LWord × Bool) (c144ok : Nat → Bool) (c146 : LWord → Bool → Bool → Nat) (c146ok : LWord → Bool → Bool → Bool) (c150 : LWord → Int → LWord) (c150ok : LWord → Int → Bool) (c151 : LWord → Int) (l14 : Bool → Bool → Bool → Int → Int → Int → Int → Int → Int → Bool → Int → Int → Int → Bool → Bool × Bool × Bool × Int × Int × Int × Int × Int × Int × Bool × Int × Int × Int × Bool) (l14ok : Bool → Bool → Bool → Int → Int → Int → Int → Int → Int → Bool → Int → Int → Int → Bool → Bool) (x : Nat) (y : Nat) (down : Bool) (k : Nat × Int → R) : R :=
  cond (!(c100 x))
    (k (0, 10))
    (cond (!(c100 y))
       (k (0, 10))
       (cond (M.eq y 0)
          (k (0, 11))
          (cond (M.eq x 0)
             (k (0, 0))
             (let x7 := c144 x
              cond (c144ok x)
                (let x8 := c144 y
                 cond (c144ok y)
                   (let x10 := IntKind.i64.wrap (53 - (c151 x7.1))
                    let x11 := c150 x7.1 x10
                    cond (c150ok x7.1 x10)
                      (let x13 := IntKind.i64.wrap (53 - (c151 x8.1))
                       let x14 := c150 x8.1 x13
                       cond (c150ok x8.1 x13)
                         (let x24 := l14 down x7.2 x8.2 x11.lo 0 0 x11.hi x11.lo x11.e x11.more x14.hi x14.lo x14.e x14.more
                          cond (l14ok down x7.2 x8.2 x11.lo 0 0 x11.hi x11.lo x11.e x11.more x14.hi x14.lo x14.e x14.more)
                            (let x26 := IntKind.i64.wrap ((IntKind.i64.wrap (x24.2.2.2.2.2.2.2.2.1 - x24.2.2.2.2.2.2.2.2.2.2.2.2.1)) - 59)
                             let x27 := (x24.2.2.2.1 : Int) != 0
                             let x28 := !(x24.2.1 == x24.2.2.1)
                             cond (c146ok (⟨0, x24.2.2.2.2.1, x26, x27⟩ : LWord) x28 x24.1)
                               (k ((c146 (⟨0, x24.2.2.2.2.1, x26, x27⟩ : LWord) x28 x24.1), 0))
                               (none))
                            (none))
                         (none))
                      (none))
                   (none))
                (none)))))
def lanternref01_Div (M : Prims) (x : Nat) (y : Nat) (down : Bool) : Nat × Int :=
  cond (!(lanternref01_Number M x))
    ((0, 10))
    (cond (!(lanternref01_Number M y))
       ((0, 10))
       (cond (M.eq y 0)
          ((0, 11))
          (cond (M.eq x 0)
             ((0, 0))
             (let x7 := lanternref01_Part M x
              let x8 := lanternref01_Part M y
              let x11 := lanternref01_Up M x7.1 (IntKind.i64.wrap (53 - (lanternref01_Length M x7.1)))
              let x14 := lanternref01_Up M x8.1 (IntKind.i64.wrap (53 - (lanternref01_Length M x8.1)))
              let x24 := lanternref01_Div.L14 M down x7.2 x8.2 x11.lo 0 0 x11.hi x11.lo x11.e x11.more x14.hi x14.lo x14.e x14.more
              ((lanternref01_To M (⟨0, x24.2.2.2.2.1, (IntKind.i64.wrap ((IntKind.i64.wrap (x24.2.2.2.2.2.2.2.2.1 - x24.2.2.2.2.2.2.2.2.2.2.2.2.1)) - 59)), ((x24.2.2.2.1 : Int) != 0)⟩ : LWord) (!(x24.2.1 == x24.2.2.1)) x24.1), 0)))))
def lanternref01_Div.ok (M : Prims) (x : Nat) (y : Nat) (down : Bool) : Bool :=
  cond (!(lanternref01_Number M x))
    (true)
    (cond (!(lanternref01_Number M y))
       (true)
       (cond (M.eq y 0)
          (true)
          (cond (M.eq x 0)
             (true)
             (let x7 := lanternref01_Part M x
              cond (lanternref01_Part.ok M x)
                (let x8 := lanternref01_Part M y
                 cond (lanternref01_Part.ok M y)
                   (let x10 := IntKind.i64.wrap (53 - (lanternref01_Length M x7.1))
                    let x11 := lanternref01_Up M x7.1 x10
                    cond (lanternref01_Up.ok M x7.1 x10)
                      (let x13 := IntKind.i64.wrap (53 - (lanternref01_Length M x8.1))
                       let x14 := lanternref01_Up M x8.1 x13
                       cond (lanternref01_Up.ok M x8.1 x13)
                         (let x24 := lanternref01_Div.L14 M down x7.2 x8.2 x11.lo 0 0 x11.hi x11.lo x11.e x11.more x14.hi x14.lo x14.e x14.more
                          cond (lanternref01_Div.L14.ok M down x7.2 x8.2 x11.lo 0 0 x11.hi x11.lo x11.e x11.more x14.hi x14.lo x14.e x14.more)
                            (cond (lanternref01_To.ok M (⟨0, x24.2.2.2.2.1, (IntKind.i64.wrap ((IntKind.i64.wrap (x24.2.2.2.2.2.2.2.2.1 - x24.2.2.2.2.2.2.2.2.2.2.2.2.1)) - 59)), ((x24.2.2.2.1 : Int) != 0)⟩ : LWord) (!(x24.2.1 == x24.2.2.1)) x24.1)
                               (true)
                               (false))
                            (false))
                         (false))
                      (false))
                   (false))
                (false)))))
def lanternref01_Div.fns (c100 : Nat → Bool) (c144 : Nat → LWord × Bool) (c144ok : Nat → Bool) (c146 : LWord → Bool → Bool → Nat) (c146ok : LWord → Bool → Bool → Bool) (c150 : LWord → Int → LWord) (c150ok : LWord → Int → Bool) (c151 : LWord → Int) : FuncId → List Value → Option (Bool × Value) := ifId 100 (lanternref01_Number.ph c100) <| ifId 144 (lanternref01_Part.ph c144 c144ok) <| ifId 146 (lanternref01_To.ph c146 c146ok) <| ifId 150 (lanternref01_Up.ph c150 c150ok) <| ifId 151 (lanternref01_Length.ph c151) <| noFns
def lanternref01_Div.L14.at (l : Bool → Bool → Bool → Int → Int → Int → Int → Int → Int → Bool → Int → Int → Int → Bool → Bool × Bool × Bool × Int × Int × Int × Int × Int × Int × Bool × Int × Int × Int × Bool) (lok : Bool → Bool → Bool → Int → Int → Int → Int → Int → Int → Bool → Int → Int → Int → Bool → Bool) (e : Env) (h : Hp) : Option (Bool × Nat × Env × Hp) :=
  match keysLt 82 e, getE e 2, getE e 8, getE e 9, getE e 10, getE e 11, getE e 12, getE e 13, getE e 14, h with
  | true, .bool a0, .pointer (some ⟨0, 0, none⟩), .bool a1, .pointer (some ⟨1, 0, none⟩), .bool a2, .int .u64 a3, .int .u64 a4, .int .i64 a5, [([.int .u64 a6, .int .u64 a7, .int .i64 a8, .bool a9], 153), ([.int .u64 a10, .int .u64 a11, .int .i64 a12, .bool a13], 153)] => some (lok a0 a1 a2 a3 a4 a5 a6 a7 a8 a9 a10 a11 a12 a13, 0, mkE (lanternref01_Div.L14.vals (l a0 a1 a2 a3 a4 a5 a6 a7 a8 a9 a10 a11 a12 a13)) lanternref01_Div.L14.asgL (getE e) (upTo 82 0), (lanternref01_Div.L14.H (l a0 a1 a2 a3 a4 a5 a6 a7 a8 a9 a10 a11 a12 a13)))
  | _, _, _, _, _, _, _, _, _, _ => none
def lanternref01_Div.lps (l14 : Bool → Bool → Bool → Int → Int → Int → Int → Int → Int → Bool → Int → Int → Int → Bool → Bool × Bool × Bool × Int × Int × Int × Int × Int × Int × Bool × Int × Int × Int × Bool) (l14ok : Bool → Bool → Bool → Int → Int → Int → Int → Int → Int → Bool → Int → Int → Int → Bool → Bool) : Loops := fun key e h => match key with
  | 14 => lanternref01_Div.L14.at l14 l14ok e h
  | _ => none
theorem lanternref01_Div.L14.ev (M : Prims) (c100 : Nat → Bool) (c144 : Nat → LWord × Bool) (c144ok : Nat → Bool) (c146 : LWord → Bool → Bool → Nat) (c146ok : LWord → Bool → Bool → Bool) (c150 : LWord → Int → LWord) (c150ok : LWord → Int → Bool) (c151 : LWord → Int) (l14 : Bool → Bool → Bool → Int → Int → Int → Int → Int → Int → Bool → Int → Int → Int → Bool → Bool × Bool × Bool × Int × Int × Int × Int × Int × Int × Bool × Int × Int × Int × Bool) (l14ok : Bool → Bool → Bool → Int → Int → Int → Int → Int → Int → Bool → Int → Int → Int → Bool → Bool) (b : Nat → Value) (s : Bool × Bool × Bool × Int × Int × Int × Int × Int × Int × Bool × Int × Int × Int × Bool) : ev tab M (pureFns (lanternref01_Div.fns c100 c144 c144ok c146 c146ok c150 c150ok c151)) (lanternref01_Div.lps l14 l14ok) true 82 60 lanternref01_Div.L14.body (mkE (lanternref01_Div.L14.vals s) lanternref01_Div.L14.asgL b (upTo 82 0)) (lanternref01_Div.L14.H s) (fun o e h => some (o, getEs e [2, 8, 9, 10, 11, 12, 13, 14], h)) = lanternref01_Div.L14.k M c100 c144 c144ok c146 c146ok c150 c150ok c151 s (fun t => some (.norm, sndL (lanternref01_Div.L14.vals t), (lanternref01_Div.L14.H t))) (fun t => some (.exit 0, sndL (lanternref01_Div.L14.vals t), (lanternref01_Div.L14.H t))) := by kernel_rfl
theorem lanternref01_Div.L14.nat {ρ : Type} (M : Prims) (s s2 : Bool × Bool × Bool × Int × Int × Int × Int × Int × Int × Bool × Int × Int × Int × Bool) (g : Bool) (kn kx : (Bool × Bool × Bool × Int × Int × Int × Int × Int × Int × Bool × Int × Int × Int × Bool) → Option ρ) : lanternref01_Div.L14.step M s = some (g, s2) → lanternref01_Div.L14.k M (lanternref01_Number M) (lanternref01_Part M) (lanternref01_Part.ok M) (lanternref01_To M) (lanternref01_To.ok M) (lanternref01_Up M) (lanternref01_Up.ok M) (lanternref01_Length M) s kn kx = cond g (kn s2) (kx s2) := by
  unfold lanternref01_Div.L14.step lanternref01_Div.L14.k
  exact nC (nC nN nN) nX
theorem lanternref01_Div.fnsOK : PureFns Tryz.prog (lanternref01_Div.fns (lanternref01_Number M0) (lanternref01_Part M0) (lanternref01_Part.ok M0) (lanternref01_To M0) (lanternref01_To.ok M0) (lanternref01_Up M0) (lanternref01_Up.ok M0) (lanternref01_Length M0)) := ifIdOK lanternref01_Number.phOK <| ifIdOK lanternref01_Part.phOK <| ifIdOK lanternref01_To.phOK <| ifIdOK lanternref01_Up.phOK <| ifIdOK lanternref01_Length.phOK <| noFnsOK
theorem lanternref01_Div.L14.isOK : LoopOK Tryz.prog 82 (lanternref01_Div.lps (lanternref01_Div.L14 M0) (lanternref01_Div.L14.ok M0)) lanternref01_Div.L14.body := by
  intro e h x e2 h2 hL0
  rw [show keyOf lanternref01_Div.L14.body = 14 from by kernel_rfl] at hL0
  have hL : lanternref01_Div.L14.at (lanternref01_Div.L14 M0) (lanternref01_Div.L14.ok M0) e h = some (true, x, e2, h2) := hL0
  unfold lanternref01_Div.L14.at at hL
  split at hL
  · rename_i a0 a1 a2 a3 a4 a5 a6 a7 a8 a9 a10 a11 a12 a13 hk e0 e1 e2 e3 e4 e5 e6 e7
    simp only [Option.some.injEq, Prod.mk.injEq] at hL
    obtain ⟨hok, rfl, rfl, rfl⟩ := hL
    obtain ⟨s2, hs⟩ := Option.isSome_iff_exists.1 hok
    unfold lanternref01_Div.L14
    rw [hs]
    refine loop_rounds_mem (P := Tryz.prog) (T := tab) (Φ := pureFns (lanternref01_Div.fns (lanternref01_Number M0) (lanternref01_Part M0) (lanternref01_Part.ok M0) (lanternref01_To M0) (lanternref01_To.ok M0) (lanternref01_Up M0) (lanternref01_Up.ok M0) (lanternref01_Length M0))) (pc := true) (Λ := (lanternref01_Div.lps (lanternref01_Div.L14 M0) (lanternref01_Div.L14.ok M0))) (setting_pure (P := Tryz.prog) mixed tabOK lanternref01_Div.fnsOK) (c := lanternref01_Div.L14.body) (by rw [show loopsOf lanternref01_Div.L14.body = [] from by kernel_rfl]; exact trivial) (by rw [show loopsOf lanternref01_Div.L14.body = [] from by kernel_rfl]; exact trivial) (lanternref01_Div.L14.step M0) lanternref01_Div.L14.vals lanternref01_Div.L14.H [2, 8, 9, 10, 11, 12, 13, 14] (fun _ => rfl) 0 60 (asg := lanternref01_Div.L14.asgL) (by kernel_rfl) ?_ (by kernel_rfl) _ (a0, a1, a2, a3, a4, a5, a6, a7, a8, a9, a10, a11, a12, a13) _ e hs hk ?_
    · intro b s s2 g hst
      refine (lanternref01_Div.L14.ev M0 (lanternref01_Number M0) (lanternref01_Part M0) (lanternref01_Part.ok M0) (lanternref01_To M0) (lanternref01_To.ok M0) (lanternref01_Up M0) (lanternref01_Up.ok M0) (lanternref01_Length M0) (lanternref01_Div.L14 M0) (lanternref01_Div.L14.ok M0) b s).trans ((lanternref01_Div.L14.nat M0 s s2 g _ _ hst).trans ?_)
      cases g <;> rfl
    · intro p hp
      simp only [lanternref01_Div.L14.vals, List.mem_cons, List.not_mem_nil, or_false] at hp
      rcases hp with rfl | rfl | rfl | rfl | rfl | rfl | rfl | rfl <;> assumption
  · cases hL
theorem lanternref01_Div.lpsOK : LoopsOK Tryz.prog 82 (lanternref01_Div.lps (lanternref01_Div.L14 M0) (lanternref01_Div.L14.ok M0)) (loopsOf (Tryz.f117.body.getD .skip)) := by
  rw [show loopsOf (Tryz.f117.body.getD .skip) = [lanternref01_Div.L14.body] from by kernel_rfl]
  exact ⟨lanternref01_Div.L14.isOK, trivial⟩
theorem lanternref01_Div.ev (M : Prims) (c100 : Nat → Bool) (c144 : Nat → LWord × Bool) (c144ok : Nat → Bool) (c146 : LWord → Bool → Bool → Nat) (c146ok : LWord → Bool → Bool → Bool) (c150 : LWord → Int → LWord) (c150ok : LWord → Int → Bool) (c151 : LWord → Int) (l14 : Bool → Bool → Bool → Int → Int → Int → Int → Int → Int → Bool → Int → Int → Int → Bool → Bool × Bool × Bool × Int × Int × Int × Int × Int × Int × Bool × Int × Int × Int × Bool) (l14ok : Bool → Bool → Bool → Int → Int → Int → Int → Int → Int → Bool → Int → Int → Int → Bool → Bool) (x : Nat) (y : Nat) (down : Bool) : evP tab M (lanternref01_Div.fns c100 c144 c144ok c146 c146ok c150 c150ok c151) (lanternref01_Div.lps l14 l14ok) 300 Tryz.f117 [(.float .f64 x), (.float .f64 y), (.bool down)] = lanternref01_Div.k M c100 c144 c144ok c146 c146ok c150 c150ok c151 l14 l14ok x y down (fun r => some (.tuple ⟨[(.float .f64 r.1), (.int .i64 r.2)]⟩, [])) := by kernel_rfl
theorem lanternref01_Div.k_eq (M : Prims) (x : Nat) (y : Nat) (down : Bool) (k : Nat × Int → R) : lanternref01_Div.ok M x y down = true → lanternref01_Div.k M (lanternref01_Number M) (lanternref01_Part M) (lanternref01_Part.ok M) (lanternref01_To M) (lanternref01_To.ok M) (lanternref01_Up M) (lanternref01_Up.ok M) (lanternref01_Length M) (lanternref01_Div.L14 M) (lanternref01_Div.L14.ok M) x y down k = k (lanternref01_Div M x y down) := by
  unfold lanternref01_Div.ok lanternref01_Div.k lanternref01_Div
  exact kC (fun _ => rfl) (kC (fun _ => rfl) (kC (fun _ => rfl) (kC (fun _ => rfl) (kL (kL (kL (kL (kL (kL (fun _ => rfl))))))))))
theorem lanternref01_Div.call (x : Nat) (y : Nat) (down : Bool) (h : lanternref01_Div.ok M0 x y down = true) : PureOK Tryz.prog 117 [(.float .f64 x), (.float .f64 y), (.bool down)] (.tuple ⟨[(.float .f64 ((lanternref01_Div M0 x y down).1)), (.int .i64 ((lanternref01_Div M0 x y down).2))]⟩) :=
  evP_sound (P := Tryz.prog) mixed tabOK lanternref01_Div.fnsOK Tryz.func117 rfl (Λ := (lanternref01_Div.lps (lanternref01_Div.L14 M0) (lanternref01_Div.L14.ok M0))) (c := Tryz.f117.body.getD .skip) rfl lanternref01_Div.lpsOK rfl (Nat.zero_le 1) rfl rfl ((lanternref01_Div.ev M0 (lanternref01_Number M0) (lanternref01_Part M0) (lanternref01_Part.ok M0) (lanternref01_To M0) (lanternref01_To.ok M0) (lanternref01_Up M0) (lanternref01_Up.ok M0) (lanternref01_Length M0) (lanternref01_Div.L14 M0) (lanternref01_Div.L14.ok M0) x y down).trans (lanternref01_Div.k_eq M0 x y down _ h))
def lanternref01_Div.ph (c117 : Nat → Nat → Bool → Nat × Int) (c117ok : Nat → Nat → Bool → Bool) : Ph := fun args => match args with
  | [.float .f64 a0_, .float .f64 a1_, .bool a2_] => some (c117ok a0_ a1_ a2_, .tuple ⟨[(.float .f64 ((c117 a0_ a1_ a2_).1)), (.int .i64 ((c117 a0_ a1_ a2_).2))]⟩)
  | _ => none
theorem lanternref01_Div.phOK : PhOK Tryz.prog 117 (lanternref01_Div.ph (lanternref01_Div M0) (lanternref01_Div.ok M0)) := ⟨by
  intro args v h
  unfold lanternref01_Div.ph at h
  split at h
  · rename_i a0_ a1_ a2_
    simp only [Option.some.injEq, Prod.mk.injEq] at h
    obtain ⟨hok, rfl⟩ := h
    exact ⟨rfl, rfl, lanternref01_Div.call a0_ a1_ a2_ hok⟩
  · cases h⟩
def lanternref02_Div.k (M : Prims) (c117 : Nat → Nat → Bool → Nat × Int) (c117ok : Nat → Nat → Bool → Bool) (c65 : Nat) (c70 : LSpan) (c98 : LSpan → Bool) (a : LSpan) (b : LSpan) (k : LSpan → R) : R :=
  cond (M.le b.lo 0)
    (cond (M.ge b.hi 0)
       (k c70)
       (cond (c98 a)
          (k c70)
          (cond (c98 b)
             (k c70)
             (let x8 := M.neg c65
              let x9 := c117 a.lo b.lo true
              cond (c117ok a.lo b.lo true)
                (let x10 := c117 a.lo b.lo false
                 cond (c117ok a.lo b.lo false)
                   (let x12 := cond (M.lt x9.1 c65) (x9.1 : Nat) c65
                    let x14 := cond (M.gt x10.1 x8) (x10.1 : Nat) x8
                    let x15 := c117 a.lo b.hi true
                    cond (c117ok a.lo b.hi true)
                      (let x16 := c117 a.lo b.hi false
                       cond (c117ok a.lo b.hi false)
                         (let x18 := cond (M.lt x15.1 x12) (x15.1 : Nat) x12
                          let x20 := cond (M.gt x16.1 x14) (x16.1 : Nat) x14
                          let x21 := c117 a.hi b.lo true
                          cond (c117ok a.hi b.lo true)
                            (let x22 := c117 a.hi b.lo false
                             cond (c117ok a.hi b.lo false)
                               (let x24 := cond (M.lt x21.1 x18) (x21.1 : Nat) x18
                                let x26 := cond (M.gt x22.1 x20) (x22.1 : Nat) x20
                                let x27 := c117 a.hi b.hi true
                                cond (c117ok a.hi b.hi true)
                                  (let x28 := c117 a.hi b.hi false
                                   cond (c117ok a.hi b.hi false)
                                     (k (⟨(cond (M.lt x27.1 x24) (x27.1 : Nat) x24), (cond (M.gt x28.1 x26) (x28.1 : Nat) x26)⟩ : LSpan))
                                     (none))
                                  (none))
                               (none))
                            (none))
                         (none))
                      (none))
                   (none))
                (none)))))
    (cond (c98 a)
       (k c70)
       (cond (c98 b)
          (k c70)
          (let x37 := M.neg c65
           let x38 := c117 a.lo b.lo true
           cond (c117ok a.lo b.lo true)
             (let x39 := c117 a.lo b.lo false
              cond (c117ok a.lo b.lo false)
                (let x41 := cond (M.lt x38.1 c65) (x38.1 : Nat) c65
                 let x43 := cond (M.gt x39.1 x37) (x39.1 : Nat) x37
                 let x44 := c117 a.lo b.hi true
                 cond (c117ok a.lo b.hi true)
                   (let x45 := c117 a.lo b.hi false
                    cond (c117ok a.lo b.hi false)
                      (let x47 := cond (M.lt x44.1 x41) (x44.1 : Nat) x41
                       let x49 := cond (M.gt x45.1 x43) (x45.1 : Nat) x43
                       let x50 := c117 a.hi b.lo true
                       cond (c117ok a.hi b.lo true)
                         (let x51 := c117 a.hi b.lo false
                          cond (c117ok a.hi b.lo false)
                            (let x53 := cond (M.lt x50.1 x47) (x50.1 : Nat) x47
                             let x55 := cond (M.gt x51.1 x49) (x51.1 : Nat) x49
                             let x56 := c117 a.hi b.hi true
                             cond (c117ok a.hi b.hi true)
                               (let x57 := c117 a.hi b.hi false
                                cond (c117ok a.hi b.hi false)
                                  (k (⟨(cond (M.lt x56.1 x53) (x56.1 : Nat) x53), (cond (M.gt x57.1 x55) (x57.1 : Nat) x55)⟩ : LSpan))
                                  (none))
                               (none))
                            (none))
                         (none))
                      (none))
                   (none))
                (none))
             (none))))
def lanternref02_Div (M : Prims) (a : LSpan) (b : LSpan) : LSpan :=
  cond (M.le b.lo 0)
    (cond (M.ge b.hi 0)
       ((lanternref02_All M))
       (cond (lanternref02_Wide M a)
          ((lanternref02_All M))
          (cond (lanternref02_Wide M b)
             ((lanternref02_All M))
             (let x8 := M.neg (lanternref01_Inf M)
              let x9 := lanternref01_Div M a.lo b.lo true
              let x10 := lanternref01_Div M a.lo b.lo false
              let x12 := cond (M.lt x9.1 (lanternref01_Inf M)) (x9.1 : Nat) (lanternref01_Inf M)
              let x14 := cond (M.gt x10.1 x8) (x10.1 : Nat) x8
              let x15 := lanternref01_Div M a.lo b.hi true
              let x16 := lanternref01_Div M a.lo b.hi false
              let x18 := cond (M.lt x15.1 x12) (x15.1 : Nat) x12
              let x20 := cond (M.gt x16.1 x14) (x16.1 : Nat) x14
              let x21 := lanternref01_Div M a.hi b.lo true
              let x22 := lanternref01_Div M a.hi b.lo false
              let x24 := cond (M.lt x21.1 x18) (x21.1 : Nat) x18
              let x26 := cond (M.gt x22.1 x20) (x22.1 : Nat) x20
              let x27 := lanternref01_Div M a.hi b.hi true
              let x28 := lanternref01_Div M a.hi b.hi false
              (⟨(cond (M.lt x27.1 x24) (x27.1 : Nat) x24), (cond (M.gt x28.1 x26) (x28.1 : Nat) x26)⟩ : LSpan)))))
    (cond (lanternref02_Wide M a)
       ((lanternref02_All M))
       (cond (lanternref02_Wide M b)
          ((lanternref02_All M))
          (let x37 := M.neg (lanternref01_Inf M)
           let x38 := lanternref01_Div M a.lo b.lo true
           let x39 := lanternref01_Div M a.lo b.lo false
           let x41 := cond (M.lt x38.1 (lanternref01_Inf M)) (x38.1 : Nat) (lanternref01_Inf M)
           let x43 := cond (M.gt x39.1 x37) (x39.1 : Nat) x37
           let x44 := lanternref01_Div M a.lo b.hi true
           let x45 := lanternref01_Div M a.lo b.hi false
           let x47 := cond (M.lt x44.1 x41) (x44.1 : Nat) x41
           let x49 := cond (M.gt x45.1 x43) (x45.1 : Nat) x43
           let x50 := lanternref01_Div M a.hi b.lo true
           let x51 := lanternref01_Div M a.hi b.lo false
           let x53 := cond (M.lt x50.1 x47) (x50.1 : Nat) x47
           let x55 := cond (M.gt x51.1 x49) (x51.1 : Nat) x49
           let x56 := lanternref01_Div M a.hi b.hi true
           let x57 := lanternref01_Div M a.hi b.hi false
           (⟨(cond (M.lt x56.1 x53) (x56.1 : Nat) x53), (cond (M.gt x57.1 x55) (x57.1 : Nat) x55)⟩ : LSpan))))
def lanternref02_Div.ok (M : Prims) (a : LSpan) (b : LSpan) : Bool :=
  cond (M.le b.lo 0)
    (cond (M.ge b.hi 0)
       (true)
       (cond (lanternref02_Wide M a)
          (true)
          (cond (lanternref02_Wide M b)
             (true)
             (cond (lanternref01_Div.ok M a.lo b.lo true)
                (cond (lanternref01_Div.ok M a.lo b.lo false)
                   (cond (lanternref01_Div.ok M a.lo b.hi true)
                      (cond (lanternref01_Div.ok M a.lo b.hi false)
                         (cond (lanternref01_Div.ok M a.hi b.lo true)
                            (cond (lanternref01_Div.ok M a.hi b.lo false)
                               (cond (lanternref01_Div.ok M a.hi b.hi true)
                                  (cond (lanternref01_Div.ok M a.hi b.hi false)
                                     (true)
                                     (false))
                                  (false))
                               (false))
                            (false))
                         (false))
                      (false))
                   (false))
                (false)))))
    (cond (lanternref02_Wide M a)
       (true)
       (cond (lanternref02_Wide M b)
          (true)
          (cond (lanternref01_Div.ok M a.lo b.lo true)
             (cond (lanternref01_Div.ok M a.lo b.lo false)
                (cond (lanternref01_Div.ok M a.lo b.hi true)
                   (cond (lanternref01_Div.ok M a.lo b.hi false)
                      (cond (lanternref01_Div.ok M a.hi b.lo true)
                         (cond (lanternref01_Div.ok M a.hi b.lo false)
                            (cond (lanternref01_Div.ok M a.hi b.hi true)
                               (cond (lanternref01_Div.ok M a.hi b.hi false)
                                  (true)
                                  (false))
                               (false))
                            (false))
                         (false))
                      (false))
                   (false))
                (false))
             (false))))
def lanternref02_Div.fns (c117 : Nat → Nat → Bool → Nat × Int) (c117ok : Nat → Nat → Bool → Bool) (c65 : Nat) (c70 : LSpan) (c98 : LSpan → Bool) : FuncId → List Value → Option (Bool × Value) := ifId 117 (lanternref01_Div.ph c117 c117ok) <| ifId 65 (lanternref01_Inf.ph c65) <| ifId 70 (lanternref02_All.ph c70) <| ifId 98 (lanternref02_Wide.ph c98) <| noFns
def lanternref02_Div.lps  : Loops := fun key e h => match key with
  | 1000012 => some (true, 0, e, h)
  | 1000014 => some (true, 0, e, h)
  | _ => none
theorem lanternref02_Div.fnsOK : PureFns Tryz.prog (lanternref02_Div.fns (lanternref01_Div M0) (lanternref01_Div.ok M0) (lanternref01_Inf M0) (lanternref02_All M0) (lanternref02_Wide M0)) := ifIdOK lanternref01_Div.phOK <| ifIdOK lanternref01_Inf.phOK <| ifIdOK lanternref02_All.phOK <| ifIdOK lanternref02_Wide.phOK <| noFnsOK
noncomputable def lanternref02_Div.B7.body : Code := (nth (loopsOf (Tryz.f72.body.getD .skip)) 0).getD .skip
theorem lanternref02_Div.B7.isOK : LoopOK Tryz.prog 91 (lanternref02_Div.lps ) lanternref02_Div.B7.body := by
  intro e h x e2 h2 hL0
  rw [show keyOf lanternref02_Div.B7.body = 7 from by kernel_rfl] at hL0
  have hL : (none : Option (Bool × Nat × Env × Hp)) = some (true, x, e2, h2) := hL0
  cases hL
theorem lanternref02_Div.lpsOK : LoopsOK Tryz.prog 91 (lanternref02_Div.lps ) (loopsOf (Tryz.f72.body.getD .skip)) := by
  rw [show loopsOf (Tryz.f72.body.getD .skip) = [lanternref02_Div.B7.body] from by kernel_rfl]
  exact ⟨lanternref02_Div.B7.isOK, trivial⟩
theorem lanternref02_Div.ev (M : Prims) (c117 : Nat → Nat → Bool → Nat × Int) (c117ok : Nat → Nat → Bool → Bool) (c65 : Nat) (c70 : LSpan) (c98 : LSpan → Bool)  (a : LSpan) (b : LSpan) : evP tab M (lanternref02_Div.fns c117 c117ok c65 c70 c98) (lanternref02_Div.lps ) 300 Tryz.f72 [a.val, b.val] = lanternref02_Div.k M c117 c117ok c65 c70 c98  a b (fun r => some (r.val, [])) := by kernel_rfl
theorem lanternref02_Div.k_eq (M : Prims) (a : LSpan) (b : LSpan) (k : LSpan → R) : lanternref02_Div.ok M a b = true → lanternref02_Div.k M (lanternref01_Div M) (lanternref01_Div.ok M) (lanternref01_Inf M) (lanternref02_All M) (lanternref02_Wide M) a b k = k (lanternref02_Div M a b) := by
  unfold lanternref02_Div.ok lanternref02_Div.k lanternref02_Div
  exact kC (kC (fun _ => rfl) (kC (fun _ => rfl) (kC (fun _ => rfl) (kL (kL (kL (kL (kL (kL (kL (kL (fun _ => rfl)))))))))))) (kC (fun _ => rfl) (kC (fun _ => rfl) (kL (kL (kL (kL (kL (kL (kL (kL (fun _ => rfl)))))))))))
theorem lanternref02_Div.call (a : LSpan) (b : LSpan) (h : lanternref02_Div.ok M0 a b = true) : PureOK Tryz.prog 72 [a.val, b.val] ((lanternref02_Div M0 a b).val) :=
  evP_sound (P := Tryz.prog) mixed tabOK lanternref02_Div.fnsOK Tryz.func72 rfl (Λ := (lanternref02_Div.lps )) (c := Tryz.f72.body.getD .skip) rfl lanternref02_Div.lpsOK rfl (Nat.zero_le 1) rfl rfl ((lanternref02_Div.ev M0 (lanternref01_Div M0) (lanternref01_Div.ok M0) (lanternref01_Inf M0) (lanternref02_All M0) (lanternref02_Wide M0) a b).trans (lanternref02_Div.k_eq M0 a b _ h))
def lanternref02_Div.ph (c72 : LSpan → LSpan → LSpan) (c72ok : LSpan → LSpan → Bool) : Ph := fun args => match args with
  | [.agg ⟨[.float .f64 a0_0, .float .f64 a0_1]⟩, .agg ⟨[.float .f64 a1_0, .float .f64 a1_1]⟩] => some (c72ok (⟨a0_0, a0_1⟩ : LSpan) (⟨a1_0, a1_1⟩ : LSpan), (c72 (⟨a0_0, a0_1⟩ : LSpan) (⟨a1_0, a1_1⟩ : LSpan)).val)
  | _ => none
theorem lanternref02_Div.phOK : PhOK Tryz.prog 72 (lanternref02_Div.ph (lanternref02_Div M0) (lanternref02_Div.ok M0)) := ⟨by
  intro args v h
  unfold lanternref02_Div.ph at h
  split at h
  · rename_i a0_0 a0_1 a1_0 a1_1
    simp only [Option.some.injEq, Prod.mk.injEq] at h
    obtain ⟨hok, rfl⟩ := h
    exact ⟨rfl, rfl, lanternref02_Div.call (⟨a0_0, a0_1⟩ : LSpan) (⟨a1_0, a1_1⟩ : LSpan) hok⟩
  · cases h⟩
def lanternref03_Over.k (_ : Prims) (c72 : LSpan → LSpan → LSpan) (c72ok : LSpan → LSpan → Bool) (a : LV3) (s : LSpan) (k : LV3 → R) : R :=
  cond (c72ok a.p0 s)
    (cond (c72ok a.p1 s)
       (cond (c72ok a.p2 s)
          (k (⟨(c72 a.p0 s), (c72 a.p1 s), (c72 a.p2 s)⟩ : LV3))
          (none))
       (none))
    (none)
def lanternref03_Over (M : Prims) (a : LV3) (s : LSpan) : LV3 :=
  (⟨(lanternref02_Div M a.p0 s), (lanternref02_Div M a.p1 s), (lanternref02_Div M a.p2 s)⟩ : LV3)
def lanternref03_Over.ok (M : Prims) (a : LV3) (s : LSpan) : Bool :=
  cond (lanternref02_Div.ok M a.p0 s)
    (cond (lanternref02_Div.ok M a.p1 s)
       (cond (lanternref02_Div.ok M a.p2 s)
          (true)
          (false))
       (false))
    (false)
def lanternref03_Over.fns (c72 : LSpan → LSpan → LSpan) (c72ok : LSpan → LSpan → Bool) : FuncId → List Value → Option (Bool × Value) := ifId 72 (lanternref02_Div.ph c72 c72ok) <| noFns
theorem lanternref03_Over.fnsOK : PureFns Tryz.prog (lanternref03_Over.fns (lanternref02_Div M0) (lanternref02_Div.ok M0)) := ifIdOK lanternref02_Div.phOK <| noFnsOK
theorem lanternref03_Over.ev (M : Prims) (c72 : LSpan → LSpan → LSpan) (c72ok : LSpan → LSpan → Bool)  (a : LV3) (s : LSpan) : evP tab M (lanternref03_Over.fns c72 c72ok) noLoops 300 Tryz.f92 [a.val, s.val] = lanternref03_Over.k M c72 c72ok  a s (fun r => some (r.val, [])) := by kernel_rfl
theorem lanternref03_Over.k_eq (M : Prims) (a : LV3) (s : LSpan) (k : LV3 → R) : lanternref03_Over.ok M a s = true → lanternref03_Over.k M (lanternref02_Div M) (lanternref02_Div.ok M) a s k = k (lanternref03_Over M a s) := by
  unfold lanternref03_Over.ok lanternref03_Over.k lanternref03_Over
  exact kL (kL (kL (fun _ => rfl)))
theorem lanternref03_Over.call (a : LV3) (s : LSpan) (h : lanternref03_Over.ok M0 a s = true) : PureOK Tryz.prog 92 [a.val, s.val] ((lanternref03_Over M0 a s).val) :=
  evP_sound (P := Tryz.prog) mixed tabOK lanternref03_Over.fnsOK Tryz.func92 rfl (Λ := noLoops) (c := Tryz.f92.body.getD .skip) rfl (noLoopsOK _) rfl (Nat.zero_le 1) rfl rfl ((lanternref03_Over.ev M0 (lanternref02_Div M0) (lanternref02_Div.ok M0) a s).trans (lanternref03_Over.k_eq M0 a s _ h))
def lanternref03_Over.ph (c92 : LV3 → LSpan → LV3) (c92ok : LV3 → LSpan → Bool) : Ph := fun args => match args with
  | [.agg ⟨[.float .f64 a0_0, .float .f64 a0_1, .float .f64 a0_2, .float .f64 a0_3, .float .f64 a0_4, .float .f64 a0_5]⟩, .agg ⟨[.float .f64 a1_0, .float .f64 a1_1]⟩] => some (c92ok (⟨⟨a0_0, a0_1⟩, ⟨a0_2, a0_3⟩, ⟨a0_4, a0_5⟩⟩ : LV3) (⟨a1_0, a1_1⟩ : LSpan), (c92 (⟨⟨a0_0, a0_1⟩, ⟨a0_2, a0_3⟩, ⟨a0_4, a0_5⟩⟩ : LV3) (⟨a1_0, a1_1⟩ : LSpan)).val)
  | _ => none
theorem lanternref03_Over.phOK : PhOK Tryz.prog 92 (lanternref03_Over.ph (lanternref03_Over M0) (lanternref03_Over.ok M0)) := ⟨by
  intro args v h
  unfold lanternref03_Over.ph at h
  split at h
  · rename_i a0_0 a0_1 a0_2 a0_3 a0_4 a0_5 a1_0 a1_1
    simp only [Option.some.injEq, Prod.mk.injEq] at h
    obtain ⟨hok, rfl⟩ := h
    exact ⟨rfl, rfl, lanternref03_Over.call (⟨⟨a0_0, a0_1⟩, ⟨a0_2, a0_3⟩, ⟨a0_4, a0_5⟩⟩ : LV3) (⟨a1_0, a1_1⟩ : LSpan) hok⟩
  · cases h⟩
def lanternref03_Unit.k (_ : Prims) (c57 : LSpan → LSpan) (c57ok : LSpan → Bool) (c91 : LV3 → LSpan) (c91ok : LV3 → Bool) (c92 : LV3 → LSpan → LV3) (c92ok : LV3 → LSpan → Bool) (a : LV3) (k : LV3 × LSpan → R) : R :=
  let x1 := c91 a
  cond (c91ok a)
    (let x2 := c57 x1
     cond (c57ok x1)
       (cond (c92ok a x2)
          (k ((c92 a x2), x2))
          (none))
       (none))
    (none)
def lanternref03_Unit (M : Prims) (a : LV3) : LV3 × LSpan :=
  let x2 := lanternref02_Sqrt M (lanternref03_Sqr M a)
  ((lanternref03_Over M a x2), x2)
def lanternref03_Unit.ok (M : Prims) (a : LV3) : Bool :=
  let x1 := lanternref03_Sqr M a
  cond (lanternref03_Sqr.ok M a)
    (cond (lanternref02_Sqrt.ok M x1)
       (cond (lanternref03_Over.ok M a (lanternref02_Sqrt M x1))
          (true)
          (false))
       (false))
    (false)
def lanternref03_Unit.fns (c57 : LSpan → LSpan) (c57ok : LSpan → Bool) (c91 : LV3 → LSpan) (c91ok : LV3 → Bool) (c92 : LV3 → LSpan → LV3) (c92ok : LV3 → LSpan → Bool) : FuncId → List Value → Option (Bool × Value) := ifId 57 (lanternref02_Sqrt.ph c57 c57ok) <| ifId 91 (lanternref03_Sqr.ph c91 c91ok) <| ifId 92 (lanternref03_Over.ph c92 c92ok) <| noFns
theorem lanternref03_Unit.fnsOK : PureFns Tryz.prog (lanternref03_Unit.fns (lanternref02_Sqrt M0) (lanternref02_Sqrt.ok M0) (lanternref03_Sqr M0) (lanternref03_Sqr.ok M0) (lanternref03_Over M0) (lanternref03_Over.ok M0)) := ifIdOK lanternref02_Sqrt.phOK <| ifIdOK lanternref03_Sqr.phOK <| ifIdOK lanternref03_Over.phOK <| noFnsOK
theorem lanternref03_Unit.ev (M : Prims) (c57 : LSpan → LSpan) (c57ok : LSpan → Bool) (c91 : LV3 → LSpan) (c91ok : LV3 → Bool) (c92 : LV3 → LSpan → LV3) (c92ok : LV3 → LSpan → Bool)  (a : LV3) : evP tab M (lanternref03_Unit.fns c57 c57ok c91 c91ok c92 c92ok) noLoops 300 Tryz.f47 [a.val] = lanternref03_Unit.k M c57 c57ok c91 c91ok c92 c92ok  a (fun r => some (.tuple ⟨[r.1.val, r.2.val]⟩, [])) := by kernel_rfl
theorem lanternref03_Unit.k_eq (M : Prims) (a : LV3) (k : LV3 × LSpan → R) : lanternref03_Unit.ok M a = true → lanternref03_Unit.k M (lanternref02_Sqrt M) (lanternref02_Sqrt.ok M) (lanternref03_Sqr M) (lanternref03_Sqr.ok M) (lanternref03_Over M) (lanternref03_Over.ok M) a k = k (lanternref03_Unit M a) := by
  unfold lanternref03_Unit.ok lanternref03_Unit.k lanternref03_Unit
  exact kL (kL (kL (fun _ => rfl)))
theorem lanternref03_Unit.call (a : LV3) (h : lanternref03_Unit.ok M0 a = true) : PureOK Tryz.prog 47 [a.val] (.tuple ⟨[((lanternref03_Unit M0 a).1).val, ((lanternref03_Unit M0 a).2).val]⟩) :=
  evP_sound (P := Tryz.prog) mixed tabOK lanternref03_Unit.fnsOK Tryz.func47 rfl (Λ := noLoops) (c := Tryz.f47.body.getD .skip) rfl (noLoopsOK _) rfl (Nat.zero_le 1) rfl rfl ((lanternref03_Unit.ev M0 (lanternref02_Sqrt M0) (lanternref02_Sqrt.ok M0) (lanternref03_Sqr M0) (lanternref03_Sqr.ok M0) (lanternref03_Over M0) (lanternref03_Over.ok M0) a).trans (lanternref03_Unit.k_eq M0 a _ h))
def lanternref03_Unit.ph (c47 : LV3 → LV3 × LSpan) (c47ok : LV3 → Bool) : Ph := fun args => match args with
  | [.agg ⟨[.float .f64 a0_0, .float .f64 a0_1, .float .f64 a0_2, .float .f64 a0_3, .float .f64 a0_4, .float .f64 a0_5]⟩] => some (c47ok (⟨⟨a0_0, a0_1⟩, ⟨a0_2, a0_3⟩, ⟨a0_4, a0_5⟩⟩ : LV3), .tuple ⟨[((c47 (⟨⟨a0_0, a0_1⟩, ⟨a0_2, a0_3⟩, ⟨a0_4, a0_5⟩⟩ : LV3)).1).val, ((c47 (⟨⟨a0_0, a0_1⟩, ⟨a0_2, a0_3⟩, ⟨a0_4, a0_5⟩⟩ : LV3)).2).val]⟩)
  | _ => none
theorem lanternref03_Unit.phOK : PhOK Tryz.prog 47 (lanternref03_Unit.ph (lanternref03_Unit M0) (lanternref03_Unit.ok M0)) := ⟨by
  intro args v h
  unfold lanternref03_Unit.ph at h
  split at h
  · rename_i a0_0 a0_1 a0_2 a0_3 a0_4 a0_5
    simp only [Option.some.injEq, Prod.mk.injEq] at h
    obtain ⟨hok, rfl⟩ := h
    exact ⟨rfl, rfl, lanternref03_Unit.call (⟨⟨a0_0, a0_1⟩, ⟨a0_2, a0_3⟩, ⟨a0_4, a0_5⟩⟩ : LV3) hok⟩
  · cases h⟩
def lanternref10_Normal.k (_ : Prims) (c44 : LV3 → LV3 → LV3) (c44ok : LV3 → LV3 → Bool) (c45 : LShape → LV3 × LV3) (c45ok : LShape → Bool) (c46 : LV3 → LV3 → LV3) (c46ok : LV3 → LV3 → Bool) (c47 : LV3 → LV3 × LSpan) (c47ok : LV3 → Bool) (s : LShape) (p : LV3) (k : LV3 → R) : R :=
  let x1 := c44 p s.p.p0
  cond (c44ok p s.p.p0)
    (cond ((s.kind : Int) != 2)
       (let x3 := c45 s
        cond (c45ok s)
          (let x4 := c46 x3.1 x3.2
           cond (c46ok x3.1 x3.2)
             (cond (c47ok x4)
                (k ((c47 x4).1))
                (none))
             (none))
          (none))
       (cond (c47ok x1)
          (k ((c47 x1).1))
          (none)))
    (none)
def lanternref10_Normal (M : Prims) (s : LShape) (p : LV3) : LV3 :=
  cond ((s.kind : Int) != 2)
    (let x3 := lanternref10_sides M s
     (lanternref03_Unit M (lanternref03_Cross M x3.1 x3.2)).1)
    ((lanternref03_Unit M (lanternref03_Sub M p s.p.p0)).1)
def lanternref10_Normal.ok (M : Prims) (s : LShape) (p : LV3) : Bool :=
  cond (lanternref03_Sub.ok M p s.p.p0)
    (cond ((s.kind : Int) != 2)
       (let x3 := lanternref10_sides M s
        cond (lanternref10_sides.ok M s)
          (cond (lanternref03_Cross.ok M x3.1 x3.2)
             (cond (lanternref03_Unit.ok M (lanternref03_Cross M x3.1 x3.2))
                (true)
                (false))
             (false))
          (false))
       (cond (lanternref03_Unit.ok M (lanternref03_Sub M p s.p.p0))
          (true)
          (false)))
    (false)
def lanternref10_Normal.fns (c44 : LV3 → LV3 → LV3) (c44ok : LV3 → LV3 → Bool) (c45 : LShape → LV3 × LV3) (c45ok : LShape → Bool) (c46 : LV3 → LV3 → LV3) (c46ok : LV3 → LV3 → Bool) (c47 : LV3 → LV3 × LSpan) (c47ok : LV3 → Bool) : FuncId → List Value → Option (Bool × Value) := ifId 44 (lanternref03_Sub.ph c44 c44ok) <| ifId 45 (lanternref10_sides.ph c45 c45ok) <| ifId 46 (lanternref03_Cross.ph c46 c46ok) <| ifId 47 (lanternref03_Unit.ph c47 c47ok) <| noFns
theorem lanternref10_Normal.fnsOK : PureFns Tryz.prog (lanternref10_Normal.fns (lanternref03_Sub M0) (lanternref03_Sub.ok M0) (lanternref10_sides M0) (lanternref10_sides.ok M0) (lanternref03_Cross M0) (lanternref03_Cross.ok M0) (lanternref03_Unit M0) (lanternref03_Unit.ok M0)) := ifIdOK lanternref03_Sub.phOK <| ifIdOK lanternref10_sides.phOK <| ifIdOK lanternref03_Cross.phOK <| ifIdOK lanternref03_Unit.phOK <| noFnsOK
theorem lanternref10_Normal.ev (M : Prims) (c44 : LV3 → LV3 → LV3) (c44ok : LV3 → LV3 → Bool) (c45 : LShape → LV3 × LV3) (c45ok : LShape → Bool) (c46 : LV3 → LV3 → LV3) (c46ok : LV3 → LV3 → Bool) (c47 : LV3 → LV3 × LSpan) (c47ok : LV3 → Bool)  (s : LShape) (p : LV3) : evP tab M (lanternref10_Normal.fns c44 c44ok c45 c45ok c46 c46ok c47 c47ok) noLoops 300 Tryz.f14 [s.val, p.val] = lanternref10_Normal.k M c44 c44ok c45 c45ok c46 c46ok c47 c47ok  s p (fun r => some (r.val, [])) := by kernel_rfl
theorem lanternref10_Normal.k_eq (M : Prims) (s : LShape) (p : LV3) (k : LV3 → R) : lanternref10_Normal.ok M s p = true → lanternref10_Normal.k M (lanternref03_Sub M) (lanternref03_Sub.ok M) (lanternref10_sides M) (lanternref10_sides.ok M) (lanternref03_Cross M) (lanternref03_Cross.ok M) (lanternref03_Unit M) (lanternref03_Unit.ok M) s p k = k (lanternref10_Normal M s p) := by
  unfold lanternref10_Normal.ok lanternref10_Normal.k lanternref10_Normal
  exact kL (kC (kL (kL (kL (fun _ => rfl)))) (kL (fun _ => rfl)))
theorem lanternref10_Normal.call (s : LShape) (p : LV3) (h : lanternref10_Normal.ok M0 s p = true) : PureOK Tryz.prog 14 [s.val, p.val] ((lanternref10_Normal M0 s p).val) :=
  evP_sound (P := Tryz.prog) mixed tabOK lanternref10_Normal.fnsOK Tryz.func14 rfl (Λ := noLoops) (c := Tryz.f14.body.getD .skip) rfl (noLoopsOK _) rfl (Nat.zero_le 1) rfl rfl ((lanternref10_Normal.ev M0 (lanternref03_Sub M0) (lanternref03_Sub.ok M0) (lanternref10_sides M0) (lanternref10_sides.ok M0) (lanternref03_Cross M0) (lanternref03_Cross.ok M0) (lanternref03_Unit M0) (lanternref03_Unit.ok M0) s p).trans (lanternref10_Normal.k_eq M0 s p _ h))
def lanternref10_Normal.ph (c14 : LShape → LV3 → LV3) (c14ok : LShape → LV3 → Bool) : Ph := fun args => match args with
  | [.agg ⟨[.int .i64 a0_0, .float .f64 a0_1, .float .f64 a0_2, .float .f64 a0_3, .float .f64 a0_4, .float .f64 a0_5, .float .f64 a0_6, .float .f64 a0_7, .float .f64 a0_8, .float .f64 a0_9, .float .f64 a0_10, .float .f64 a0_11, .float .f64 a0_12, .float .f64 a0_13, .float .f64 a0_14, .float .f64 a0_15, .float .f64 a0_16, .float .f64 a0_17, .float .f64 a0_18, .float .f64 a0_19, .float .f64 a0_20]⟩, .agg ⟨[.float .f64 a1_0, .float .f64 a1_1, .float .f64 a1_2, .float .f64 a1_3, .float .f64 a1_4, .float .f64 a1_5]⟩] => some (c14ok (⟨a0_0, ⟨⟨⟨a0_1, a0_2⟩, ⟨a0_3, a0_4⟩, ⟨a0_5, a0_6⟩⟩, ⟨⟨a0_7, a0_8⟩, ⟨a0_9, a0_10⟩, ⟨a0_11, a0_12⟩⟩, ⟨⟨a0_13, a0_14⟩, ⟨a0_15, a0_16⟩, ⟨a0_17, a0_18⟩⟩⟩, ⟨a0_19, a0_20⟩⟩ : LShape) (⟨⟨a1_0, a1_1⟩, ⟨a1_2, a1_3⟩, ⟨a1_4, a1_5⟩⟩ : LV3), (c14 (⟨a0_0, ⟨⟨⟨a0_1, a0_2⟩, ⟨a0_3, a0_4⟩, ⟨a0_5, a0_6⟩⟩, ⟨⟨a0_7, a0_8⟩, ⟨a0_9, a0_10⟩, ⟨a0_11, a0_12⟩⟩, ⟨⟨a0_13, a0_14⟩, ⟨a0_15, a0_16⟩, ⟨a0_17, a0_18⟩⟩⟩, ⟨a0_19, a0_20⟩⟩ : LShape) (⟨⟨a1_0, a1_1⟩, ⟨a1_2, a1_3⟩, ⟨a1_4, a1_5⟩⟩ : LV3)).val)
  | _ => none
theorem lanternref10_Normal.phOK : PhOK Tryz.prog 14 (lanternref10_Normal.ph (lanternref10_Normal M0) (lanternref10_Normal.ok M0)) := ⟨by
  intro args v h
  unfold lanternref10_Normal.ph at h
  split at h
  · rename_i a0_0 a0_1 a0_2 a0_3 a0_4 a0_5 a0_6 a0_7 a0_8 a0_9 a0_10 a0_11 a0_12 a0_13 a0_14 a0_15 a0_16 a0_17 a0_18 a0_19 a0_20 a1_0 a1_1 a1_2 a1_3 a1_4 a1_5
    simp only [Option.some.injEq, Prod.mk.injEq] at h
    obtain ⟨hok, rfl⟩ := h
    exact ⟨rfl, rfl, lanternref10_Normal.call (⟨a0_0, ⟨⟨⟨a0_1, a0_2⟩, ⟨a0_3, a0_4⟩, ⟨a0_5, a0_6⟩⟩, ⟨⟨a0_7, a0_8⟩, ⟨a0_9, a0_10⟩, ⟨a0_11, a0_12⟩⟩, ⟨⟨a0_13, a0_14⟩, ⟨a0_15, a0_16⟩, ⟨a0_17, a0_18⟩⟩⟩, ⟨a0_19, a0_20⟩⟩ : LShape) (⟨⟨a1_0, a1_1⟩, ⟨a1_2, a1_3⟩, ⟨a1_4, a1_5⟩⟩ : LV3) hok⟩
  · cases h⟩
def lanternref02_Same.k (_ : Prims) (c48 : Nat → Int) (c48ok : Nat → Bool) (a : LSpan) (b : LSpan) (k : Bool → R) : R :=
  cond (c48ok a.lo)
    (cond (c48ok b.lo)
       (cond (((c48 a.lo) : Int) == (c48 b.lo))
          (cond (c48ok a.hi)
             (cond (c48ok b.hi)
                (k (((c48 a.hi) : Int) == (c48 b.hi)))
                (none))
             (none))
          (k false))
       (none))
    (none)
def lanternref02_Same (_ : Prims) (a : LSpan) (b : LSpan) : Bool :=
  cond (((f64bits a.lo) : Int) == (f64bits b.lo))
    ((((f64bits a.hi) : Int) == (f64bits b.hi)))
    (false)
def lanternref02_Same.ok (_ : Prims) (a : LSpan) (b : LSpan) : Bool :=
  cond (f64bits.ok a.lo)
    (cond (f64bits.ok b.lo)
       (cond (((f64bits a.lo) : Int) == (f64bits b.lo))
          (cond (f64bits.ok a.hi)
             (cond (f64bits.ok b.hi)
                (true)
                (false))
             (false))
          (true))
       (false))
    (false)
def lanternref02_Same.fns (c48 : Nat → Int) (c48ok : Nat → Bool) : FuncId → List Value → Option (Bool × Value) := ifId 48 (f64bits.ph c48 c48ok) <| noFns
theorem lanternref02_Same.fnsOK : PureFns Tryz.prog (lanternref02_Same.fns f64bits f64bits.ok) := ifIdOK f64bits.phOK <| noFnsOK
theorem lanternref02_Same.ev (M : Prims) (c48 : Nat → Int) (c48ok : Nat → Bool)  (a : LSpan) (b : LSpan) : evP tab M (lanternref02_Same.fns c48 c48ok) noLoops 300 Tryz.f15 [a.val, b.val] = lanternref02_Same.k M c48 c48ok  a b (fun r => some ((.bool r), [])) := by kernel_rfl
theorem lanternref02_Same.k_eq (M : Prims) (a : LSpan) (b : LSpan) (k : Bool → R) : lanternref02_Same.ok M a b = true → lanternref02_Same.k M f64bits f64bits.ok a b k = k (lanternref02_Same M a b) := by
  unfold lanternref02_Same.ok lanternref02_Same.k lanternref02_Same
  exact kL (kL (kC (kL (kL (fun _ => rfl))) (fun _ => rfl)))
theorem lanternref02_Same.call (a : LSpan) (b : LSpan) (h : lanternref02_Same.ok M0 a b = true) : PureOK Tryz.prog 15 [a.val, b.val] (.bool (lanternref02_Same M0 a b)) :=
  evP_sound (P := Tryz.prog) mixed tabOK lanternref02_Same.fnsOK Tryz.func15 rfl (Λ := noLoops) (c := Tryz.f15.body.getD .skip) rfl (noLoopsOK _) rfl (Nat.zero_le 1) rfl rfl ((lanternref02_Same.ev M0 f64bits f64bits.ok a b).trans (lanternref02_Same.k_eq M0 a b _ h))
def lanternref02_Same.ph (c15 : LSpan → LSpan → Bool) (c15ok : LSpan → LSpan → Bool) : Ph := fun args => match args with
  | [.agg ⟨[.float .f64 a0_0, .float .f64 a0_1]⟩, .agg ⟨[.float .f64 a1_0, .float .f64 a1_1]⟩] => some (c15ok (⟨a0_0, a0_1⟩ : LSpan) (⟨a1_0, a1_1⟩ : LSpan), (.bool (c15 (⟨a0_0, a0_1⟩ : LSpan) (⟨a1_0, a1_1⟩ : LSpan))))
  | _ => none
theorem lanternref02_Same.phOK : PhOK Tryz.prog 15 (lanternref02_Same.ph (lanternref02_Same M0) (lanternref02_Same.ok M0)) := ⟨by
  intro args v h
  unfold lanternref02_Same.ph at h
  split at h
  · rename_i a0_0 a0_1 a1_0 a1_1
    simp only [Option.some.injEq, Prod.mk.injEq] at h
    obtain ⟨hok, rfl⟩ := h
    exact ⟨rfl, rfl, lanternref02_Same.call (⟨a0_0, a0_1⟩ : LSpan) (⟨a1_0, a1_1⟩ : LSpan) hok⟩
  · cases h⟩
def lanternref03_Same.k (_ : Prims) (c15 : LSpan → LSpan → Bool) (c15ok : LSpan → LSpan → Bool) (a : LV3) (b : LV3) (k : Bool → R) : R :=
  cond (c15ok a.p0 b.p0)
    (cond (c15 a.p0 b.p0)
       (cond (c15ok a.p1 b.p1)
          (cond (c15 a.p1 b.p1)
             (cond (c15ok a.p2 b.p2)
                (k (c15 a.p2 b.p2))
                (none))
             (k false))
          (none))
       (k false))
    (none)
def lanternref03_Same (M : Prims) (a : LV3) (b : LV3) : Bool :=
  cond (lanternref02_Same M a.p0 b.p0)
    (cond (lanternref02_Same M a.p1 b.p1)
       ((lanternref02_Same M a.p2 b.p2))
       (false))
    (false)
def lanternref03_Same.ok (M : Prims) (a : LV3) (b : LV3) : Bool :=
  cond (lanternref02_Same.ok M a.p0 b.p0)
    (cond (lanternref02_Same M a.p0 b.p0)
       (cond (lanternref02_Same.ok M a.p1 b.p1)
          (cond (lanternref02_Same M a.p1 b.p1)
             (cond (lanternref02_Same.ok M a.p2 b.p2)
                (true)
                (false))
             (true))
          (false))
       (true))
    (false)
def lanternref03_Same.fns (c15 : LSpan → LSpan → Bool) (c15ok : LSpan → LSpan → Bool) : FuncId → List Value → Option (Bool × Value) := ifId 15 (lanternref02_Same.ph c15 c15ok) <| noFns
theorem lanternref03_Same.fnsOK : PureFns Tryz.prog (lanternref03_Same.fns (lanternref02_Same M0) (lanternref02_Same.ok M0)) := ifIdOK lanternref02_Same.phOK <| noFnsOK
theorem lanternref03_Same.ev (M : Prims) (c15 : LSpan → LSpan → Bool) (c15ok : LSpan → LSpan → Bool)  (a : LV3) (b : LV3) : evP tab M (lanternref03_Same.fns c15 c15ok) noLoops 300 Tryz.f12 [a.val, b.val] = lanternref03_Same.k M c15 c15ok  a b (fun r => some ((.bool r), [])) := by kernel_rfl
theorem lanternref03_Same.k_eq (M : Prims) (a : LV3) (b : LV3) (k : Bool → R) : lanternref03_Same.ok M a b = true → lanternref03_Same.k M (lanternref02_Same M) (lanternref02_Same.ok M) a b k = k (lanternref03_Same M a b) := by
  unfold lanternref03_Same.ok lanternref03_Same.k lanternref03_Same
  exact kL (kC (kL (kC (kL (fun _ => rfl)) (fun _ => rfl))) (fun _ => rfl))
theorem lanternref03_Same.call (a : LV3) (b : LV3) (h : lanternref03_Same.ok M0 a b = true) : PureOK Tryz.prog 12 [a.val, b.val] (.bool (lanternref03_Same M0 a b)) :=
  evP_sound (P := Tryz.prog) mixed tabOK lanternref03_Same.fnsOK Tryz.func12 rfl (Λ := noLoops) (c := Tryz.f12.body.getD .skip) rfl (noLoopsOK _) rfl (Nat.zero_le 1) rfl rfl ((lanternref03_Same.ev M0 (lanternref02_Same M0) (lanternref02_Same.ok M0) a b).trans (lanternref03_Same.k_eq M0 a b _ h))
def lanternref03_Same.ph (c12 : LV3 → LV3 → Bool) (c12ok : LV3 → LV3 → Bool) : Ph := fun args => match args with
  | [.agg ⟨[.float .f64 a0_0, .float .f64 a0_1, .float .f64 a0_2, .float .f64 a0_3, .float .f64 a0_4, .float .f64 a0_5]⟩, .agg ⟨[.float .f64 a1_0, .float .f64 a1_1, .float .f64 a1_2, .float .f64 a1_3, .float .f64 a1_4, .float .f64 a1_5]⟩] => some (c12ok (⟨⟨a0_0, a0_1⟩, ⟨a0_2, a0_3⟩, ⟨a0_4, a0_5⟩⟩ : LV3) (⟨⟨a1_0, a1_1⟩, ⟨a1_2, a1_3⟩, ⟨a1_4, a1_5⟩⟩ : LV3), (.bool (c12 (⟨⟨a0_0, a0_1⟩, ⟨a0_2, a0_3⟩, ⟨a0_4, a0_5⟩⟩ : LV3) (⟨⟨a1_0, a1_1⟩, ⟨a1_2, a1_3⟩, ⟨a1_4, a1_5⟩⟩ : LV3))))
  | _ => none
theorem lanternref03_Same.phOK : PhOK Tryz.prog 12 (lanternref03_Same.ph (lanternref03_Same M0) (lanternref03_Same.ok M0)) := ⟨by
  intro args v h
  unfold lanternref03_Same.ph at h
  split at h
  · rename_i a0_0 a0_1 a0_2 a0_3 a0_4 a0_5 a1_0 a1_1 a1_2 a1_3 a1_4 a1_5
    simp only [Option.some.injEq, Prod.mk.injEq] at h
    obtain ⟨hok, rfl⟩ := h
    exact ⟨rfl, rfl, lanternref03_Same.call (⟨⟨a0_0, a0_1⟩, ⟨a0_2, a0_3⟩, ⟨a0_4, a0_5⟩⟩ : LV3) (⟨⟨a1_0, a1_1⟩, ⟨a1_2, a1_3⟩, ⟨a1_4, a1_5⟩⟩ : LV3) hok⟩
  · cases h⟩
def shape_Area.k (_ : Prims) (c40 : LV3 → LV3 × LSpan) (c40ok : LV3 → Bool) (c42 : LShape → LV3 × LV3) (c42ok : LShape → Bool) (c43 : LV3 → LV3 → LV3) (c43ok : LV3 → LV3 → Bool) (c49 : LSpan → LSpan → LSpan) (c49ok : LSpan → LSpan → Bool) (c50 : Nat → LSpan) (c50ok : Nat → Bool) (s : LShape) (k : LSpan → R) : R :=
  cond ((s.kind : Int) != 1)
    (k (⟨0, 0⟩ : LSpan))
    (let x2 := c42 s
     cond (c42ok s)
       (let x3 := c43 x2.1 x2.2
        cond (c43ok x2.1 x2.2)
          (let x4 := c40 x3
           cond (c40ok x3)
             (let x5 := c50 4602678819172646912
              cond (c50ok 4602678819172646912)
                (cond (c49ok x4.2 x5)
                   (k (c49 x4.2 x5))
                   (none))
                (none))
             (none))
          (none))
       (none))
def shape_Area (M : Prims) (s : LShape) : LSpan :=
  cond ((s.kind : Int) != 1)
    ((⟨0, 0⟩ : LSpan))
    (let x2 := shape_edges M s
     (span_Mul M (vec_Unit M (vec_Cross M x2.1 x2.2)).2 (span_Of M 4602678819172646912)))
def shape_Area.ok (M : Prims) (s : LShape) : Bool :=
  cond ((s.kind : Int) != 1)
    (true)
    (let x2 := shape_edges M s
     cond (shape_edges.ok M s)
       (let x3 := vec_Cross M x2.1 x2.2
        cond (vec_Cross.ok M x2.1 x2.2)
          (cond (vec_Unit.ok M x3)
             (cond (span_Of.ok M 4602678819172646912)
                (cond (span_Mul.ok M (vec_Unit M x3).2 (span_Of M 4602678819172646912))
                   (true)
                   (false))
                (false))
             (false))
          (false))
       (false))
def shape_Area.fns (c40 : LV3 → LV3 × LSpan) (c40ok : LV3 → Bool) (c42 : LShape → LV3 × LV3) (c42ok : LShape → Bool) (c43 : LV3 → LV3 → LV3) (c43ok : LV3 → LV3 → Bool) (c49 : LSpan → LSpan → LSpan) (c49ok : LSpan → LSpan → Bool) (c50 : Nat → LSpan) (c50ok : Nat → Bool) : FuncId → List Value → Option (Bool × Value) := ifId 40 (vec_Unit.ph c40 c40ok) <| ifId 42 (shape_edges.ph c42 c42ok) <| ifId 43 (vec_Cross.ph c43 c43ok) <| ifId 49 (span_Mul.ph c49 c49ok) <| ifId 50 (span_Of.ph c50 c50ok) <| noFns
theorem shape_Area.fnsOK : PureFns Tryz.prog (shape_Area.fns (vec_Unit M0) (vec_Unit.ok M0) (shape_edges M0) (shape_edges.ok M0) (vec_Cross M0) (vec_Cross.ok M0) (span_Mul M0) (span_Mul.ok M0) (span_Of M0) (span_Of.ok M0)) := ifIdOK vec_Unit.phOK <| ifIdOK shape_edges.phOK <| ifIdOK vec_Cross.phOK <| ifIdOK span_Mul.phOK <| ifIdOK span_Of.phOK <| noFnsOK
theorem shape_Area.ev (M : Prims) (c40 : LV3 → LV3 × LSpan) (c40ok : LV3 → Bool) (c42 : LShape → LV3 × LV3) (c42ok : LShape → Bool) (c43 : LV3 → LV3 → LV3) (c43ok : LV3 → LV3 → Bool) (c49 : LSpan → LSpan → LSpan) (c49ok : LSpan → LSpan → Bool) (c50 : Nat → LSpan) (c50ok : Nat → Bool)  (s : LShape) : evP tab M (shape_Area.fns c40 c40ok c42 c42ok c43 c43ok c49 c49ok c50 c50ok) noLoops 300 Tryz.f16 [s.val] = shape_Area.k M c40 c40ok c42 c42ok c43 c43ok c49 c49ok c50 c50ok  s (fun r => some (r.val, [])) := by kernel_rfl
theorem shape_Area.k_eq (M : Prims) (s : LShape) (k : LSpan → R) : shape_Area.ok M s = true → shape_Area.k M (vec_Unit M) (vec_Unit.ok M) (shape_edges M) (shape_edges.ok M) (vec_Cross M) (vec_Cross.ok M) (span_Mul M) (span_Mul.ok M) (span_Of M) (span_Of.ok M) s k = k (shape_Area M s) := by
  unfold shape_Area.ok shape_Area.k shape_Area
  exact kC (fun _ => rfl) (kL (kL (kL (kL (kL (fun _ => rfl))))))
theorem shape_Area.call (s : LShape) (h : shape_Area.ok M0 s = true) : PureOK Tryz.prog 16 [s.val] ((shape_Area M0 s).val) :=
  evP_sound (P := Tryz.prog) mixed tabOK shape_Area.fnsOK Tryz.func16 rfl (Λ := noLoops) (c := Tryz.f16.body.getD .skip) rfl (noLoopsOK _) rfl (Nat.zero_le 1) rfl rfl ((shape_Area.ev M0 (vec_Unit M0) (vec_Unit.ok M0) (shape_edges M0) (shape_edges.ok M0) (vec_Cross M0) (vec_Cross.ok M0) (span_Mul M0) (span_Mul.ok M0) (span_Of M0) (span_Of.ok M0) s).trans (shape_Area.k_eq M0 s _ h))
def shape_Area.ph (c16 : LShape → LSpan) (c16ok : LShape → Bool) : Ph := fun args => match args with
  | [.agg ⟨[.int .i64 a0_0, .float .f64 a0_1, .float .f64 a0_2, .float .f64 a0_3, .float .f64 a0_4, .float .f64 a0_5, .float .f64 a0_6, .float .f64 a0_7, .float .f64 a0_8, .float .f64 a0_9, .float .f64 a0_10, .float .f64 a0_11, .float .f64 a0_12, .float .f64 a0_13, .float .f64 a0_14, .float .f64 a0_15, .float .f64 a0_16, .float .f64 a0_17, .float .f64 a0_18, .float .f64 a0_19, .float .f64 a0_20]⟩] => some (c16ok (⟨a0_0, ⟨⟨⟨a0_1, a0_2⟩, ⟨a0_3, a0_4⟩, ⟨a0_5, a0_6⟩⟩, ⟨⟨a0_7, a0_8⟩, ⟨a0_9, a0_10⟩, ⟨a0_11, a0_12⟩⟩, ⟨⟨a0_13, a0_14⟩, ⟨a0_15, a0_16⟩, ⟨a0_17, a0_18⟩⟩⟩, ⟨a0_19, a0_20⟩⟩ : LShape), (c16 (⟨a0_0, ⟨⟨⟨a0_1, a0_2⟩, ⟨a0_3, a0_4⟩, ⟨a0_5, a0_6⟩⟩, ⟨⟨a0_7, a0_8⟩, ⟨a0_9, a0_10⟩, ⟨a0_11, a0_12⟩⟩, ⟨⟨a0_13, a0_14⟩, ⟨a0_15, a0_16⟩, ⟨a0_17, a0_18⟩⟩⟩, ⟨a0_19, a0_20⟩⟩ : LShape)).val)
  | _ => none
theorem shape_Area.phOK : PhOK Tryz.prog 16 (shape_Area.ph (shape_Area M0) (shape_Area.ok M0)) := ⟨by
  intro args v h
  unfold shape_Area.ph at h
  split at h
  · rename_i a0_0 a0_1 a0_2 a0_3 a0_4 a0_5 a0_6 a0_7 a0_8 a0_9 a0_10 a0_11 a0_12 a0_13 a0_14 a0_15 a0_16 a0_17 a0_18 a0_19 a0_20
    simp only [Option.some.injEq, Prod.mk.injEq] at h
    obtain ⟨hok, rfl⟩ := h
    exact ⟨rfl, rfl, shape_Area.call (⟨a0_0, ⟨⟨⟨a0_1, a0_2⟩, ⟨a0_3, a0_4⟩, ⟨a0_5, a0_6⟩⟩, ⟨⟨a0_7, a0_8⟩, ⟨a0_9, a0_10⟩, ⟨a0_11, a0_12⟩⟩, ⟨⟨a0_13, a0_14⟩, ⟨a0_15, a0_16⟩, ⟨a0_17, a0_18⟩⟩⟩, ⟨a0_19, a0_20⟩⟩ : LShape) hok⟩
  · cases h⟩
end Go.Lan
