import Derived.Test.YtpgjihkaocahbaaGreatGLb9Lb10
namespace Go.Lan
open Go.Proofs
def lanternref10_Area.k (_ : Prims) (c45 : LShape → LV3 × LV3) (c45ok : LShape → Bool) (c46 : LV3 → LV3 → LV3) (c46ok : LV3 → LV3 → Bool) (c47 : LV3 → LV3 × LSpan) (c47ok : LV3 → Bool) (c51 : LSpan → LSpan → LSpan) (c51ok : LSpan → LSpan → Bool) (c52 : Nat → LSpan) (s : LShape) (k : LSpan → R) : R :=
  cond ((s.kind : Int) != 1)
    (k (⟨0, 0⟩ : LSpan))
    (let x2 := c45 s
     cond (c45ok s)
       (let x3 := c46 x2.1 x2.2
        cond (c46ok x2.1 x2.2)
          (let x4 := c47 x3
           cond (c47ok x3)
             (let x5 := c52 4602678819172646912
              cond (c51ok x4.2 x5)
                (k (c51 x4.2 x5))
                (none))
             (none))
          (none))
       (none))
def lanternref10_Area (M : Prims) (s : LShape) : LSpan :=
  cond ((s.kind : Int) != 1)
    ((⟨0, 0⟩ : LSpan))
    (let x2 := lanternref10_sides M s
     (lanternref02_Mul M (lanternref03_Unit M (lanternref03_Cross M x2.1 x2.2)).2 (lanternref02_Of M 4602678819172646912)))
def lanternref10_Area.ok (M : Prims) (s : LShape) : Bool :=
  cond ((s.kind : Int) != 1)
    (true)
    (let x2 := lanternref10_sides M s
     cond (lanternref10_sides.ok M s)
       (let x3 := lanternref03_Cross M x2.1 x2.2
        cond (lanternref03_Cross.ok M x2.1 x2.2)
          (cond (lanternref03_Unit.ok M x3)
             (cond (lanternref02_Mul.ok M (lanternref03_Unit M x3).2 (lanternref02_Of M 4602678819172646912))
                (true)
                (false))
             (false))
          (false))
       (false))
def lanternref10_Area.fns (c45 : LShape → LV3 × LV3) (c45ok : LShape → Bool) (c46 : LV3 → LV3 → LV3) (c46ok : LV3 → LV3 → Bool) (c47 : LV3 → LV3 × LSpan) (c47ok : LV3 → Bool) (c51 : LSpan → LSpan → LSpan) (c51ok : LSpan → LSpan → Bool) (c52 : Nat → LSpan) : FuncId → List Value → Option (Bool × Value) := ifId 45 (lanternref10_sides.ph c45 c45ok) <| ifId 46 (lanternref03_Cross.ph c46 c46ok) <| ifId 47 (lanternref03_Unit.ph c47 c47ok) <| ifId 51 (lanternref02_Mul.ph c51 c51ok) <| ifId 52 (lanternref02_Of.ph c52) <| noFns
theorem lanternref10_Area.fnsOK : PureFns Tryz.prog (lanternref10_Area.fns (lanternref10_sides M0) (lanternref10_sides.ok M0) (lanternref03_Cross M0) (lanternref03_Cross.ok M0) (lanternref03_Unit M0) (lanternref03_Unit.ok M0) (lanternref02_Mul M0) (lanternref02_Mul.ok M0) (lanternref02_Of M0)) := ifIdOK lanternref10_sides.phOK <| ifIdOK lanternref03_Cross.phOK <| ifIdOK lanternref03_Unit.phOK <| ifIdOK lanternref02_Mul.phOK <| ifIdOK lanternref02_Of.phOK <| noFnsOK
theorem lanternref10_Area.ev (M : Prims) (c45 : LShape → LV3 × LV3) (c45ok : LShape → Bool) (c46 : LV3 → LV3 → LV3) (c46ok : LV3 → LV3 → Bool) (c47 : LV3 → LV3 × LSpan) (c47ok : LV3 → Bool) (c51 : LSpan → LSpan → LSpan) (c51ok : LSpan → LSpan → Bool) (c52 : Nat → LSpan)  (s : LShape) : evP tab M (lanternref10_Area.fns c45 c45ok c46 c46ok c47 c47ok c51 c51ok c52) noLoops 300 Tryz.f17 [s.val] = lanternref10_Area.k M c45 c45ok c46 c46ok c47 c47ok c51 c51ok c52  s (fun r => some (r.val, [])) := by kernel_rfl
theorem lanternref10_Area.k_eq (M : Prims) (s : LShape) (k : LSpan → R) : lanternref10_Area.ok M s = true → lanternref10_Area.k M (lanternref10_sides M) (lanternref10_sides.ok M) (lanternref03_Cross M) (lanternref03_Cross.ok M) (lanternref03_Unit M) (lanternref03_Unit.ok M) (lanternref02_Mul M) (lanternref02_Mul.ok M) (lanternref02_Of M) s k = k (lanternref10_Area M s) := by
  unfold lanternref10_Area.ok lanternref10_Area.k lanternref10_Area
  exact kC (fun _ => rfl) (kL (kL (kL (kL (fun _ => rfl)))))
theorem lanternref10_Area.call (s : LShape) (h : lanternref10_Area.ok M0 s = true) : PureOK Tryz.prog 17 [s.val] ((lanternref10_Area M0 s).val) :=
  evP_sound (P := Tryz.prog) mixed tabOK lanternref10_Area.fnsOK Tryz.func17 rfl (Λ := noLoops) (c := Tryz.f17.body.getD .skip) rfl (noLoopsOK _) rfl (Nat.zero_le 1) rfl rfl ((lanternref10_Area.ev M0 (lanternref10_sides M0) (lanternref10_sides.ok M0) (lanternref03_Cross M0) (lanternref03_Cross.ok M0) (lanternref03_Unit M0) (lanternref03_Unit.ok M0) (lanternref02_Mul M0) (lanternref02_Mul.ok M0) (lanternref02_Of M0) s).trans (lanternref10_Area.k_eq M0 s _ h))
def lanternref10_Area.ph (c17 : LShape → LSpan) (c17ok : LShape → Bool) : Ph := fun args => match args with
  | [.agg ⟨[.int .i64 a0_0, .float .f64 a0_1, .float .f64 a0_2, .float .f64 a0_3, .float .f64 a0_4, .float .f64 a0_5, .float .f64 a0_6, .float .f64 a0_7, .float .f64 a0_8, .float .f64 a0_9, .float .f64 a0_10, .float .f64 a0_11, .float .f64 a0_12, .float .f64 a0_13, .float .f64 a0_14, .float .f64 a0_15, .float .f64 a0_16, .float .f64 a0_17, .float .f64 a0_18, .float .f64 a0_19, .float .f64 a0_20]⟩] => some (c17ok (⟨a0_0, ⟨⟨⟨a0_1, a0_2⟩, ⟨a0_3, a0_4⟩, ⟨a0_5, a0_6⟩⟩, ⟨⟨a0_7, a0_8⟩, ⟨a0_9, a0_10⟩, ⟨a0_11, a0_12⟩⟩, ⟨⟨a0_13, a0_14⟩, ⟨a0_15, a0_16⟩, ⟨a0_17, a0_18⟩⟩⟩, ⟨a0_19, a0_20⟩⟩ : LShape), (c17 (⟨a0_0, ⟨⟨⟨a0_1, a0_2⟩, ⟨a0_3, a0_4⟩, ⟨a0_5, a0_6⟩⟩, ⟨⟨a0_7, a0_8⟩, ⟨a0_9, a0_10⟩, ⟨a0_11, a0_12⟩⟩, ⟨⟨a0_13, a0_14⟩, ⟨a0_15, a0_16⟩, ⟨a0_17, a0_18⟩⟩⟩, ⟨a0_19, a0_20⟩⟩ : LShape)).val)
  | _ => none
theorem lanternref10_Area.phOK : PhOK Tryz.prog 17 (lanternref10_Area.ph (lanternref10_Area M0) (lanternref10_Area.ok M0)) := ⟨by
  intro args v h
  unfold lanternref10_Area.ph at h
  split at h
  · rename_i a0_0 a0_1 a0_2 a0_3 a0_4 a0_5 a0_6 a0_7 a0_8 a0_9 a0_10 a0_11 a0_12 a0_13 a0_14 a0_15 a0_16 a0_17 a0_18 a0_19 a0_20
    simp only [Option.some.injEq, Prod.mk.injEq] at h
    obtain ⟨hok, rfl⟩ := h
    exact ⟨rfl, rfl, lanternref10_Area.call (⟨a0_0, ⟨⟨⟨a0_1, a0_2⟩, ⟨a0_3, a0_4⟩, ⟨a0_5, a0_6⟩⟩, ⟨⟨a0_7, a0_8⟩, ⟨a0_9, a0_10⟩, ⟨a0_11, a0_12⟩⟩, ⟨⟨a0_13, a0_14⟩, ⟨a0_15, a0_16⟩, ⟨a0_17, a0_18⟩⟩⟩, ⟨a0_19, a0_20⟩⟩ : LShape) hok⟩
  · cases h⟩
def vec_Scale.k (_ : Prims) (c104 : LV3 → LV3 → LV3) (c104ok : LV3 → LV3 → Bool) (a : LV3) (s : LSpan) (k : LV3 → R) : R :=
  cond (c104ok a (⟨s, s, s⟩ : LV3))
    (k (c104 a (⟨s, s, s⟩ : LV3)))
    (none)
def vec_Scale (M : Prims) (a : LV3) (s : LSpan) : LV3 :=
  (vec_Times M a (⟨s, s, s⟩ : LV3))
def vec_Scale.ok (M : Prims) (a : LV3) (s : LSpan) : Bool :=
  cond (vec_Times.ok M a (⟨s, s, s⟩ : LV3))
    (true)
    (false)
def vec_Scale.fns (c104 : LV3 → LV3 → LV3) (c104ok : LV3 → LV3 → Bool) : FuncId → List Value → Option (Bool × Value) := ifId 104 (vec_Times.ph c104 c104ok) <| noFns
theorem vec_Scale.fnsOK : PureFns Tryz.prog (vec_Scale.fns (vec_Times M0) (vec_Times.ok M0)) := ifIdOK vec_Times.phOK <| noFnsOK
theorem vec_Scale.ev (M : Prims) (c104 : LV3 → LV3 → LV3) (c104ok : LV3 → LV3 → Bool)  (a : LV3) (s : LSpan) : evP tab M (vec_Scale.fns c104 c104ok) noLoops 300 Tryz.f56 [a.val, s.val] = vec_Scale.k M c104 c104ok  a s (fun r => some (r.val, [])) := by kernel_rfl
theorem vec_Scale.k_eq (M : Prims) (a : LV3) (s : LSpan) (k : LV3 → R) : vec_Scale.ok M a s = true → vec_Scale.k M (vec_Times M) (vec_Times.ok M) a s k = k (vec_Scale M a s) := by
  unfold vec_Scale.ok vec_Scale.k vec_Scale
  exact kL (fun _ => rfl)
theorem vec_Scale.call (a : LV3) (s : LSpan) (h : vec_Scale.ok M0 a s = true) : PureOK Tryz.prog 56 [a.val, s.val] ((vec_Scale M0 a s).val) :=
  evP_sound (P := Tryz.prog) mixed tabOK vec_Scale.fnsOK Tryz.func56 rfl (Λ := noLoops) (c := Tryz.f56.body.getD .skip) rfl (noLoopsOK _) rfl (Nat.zero_le 1) rfl rfl ((vec_Scale.ev M0 (vec_Times M0) (vec_Times.ok M0) a s).trans (vec_Scale.k_eq M0 a s _ h))
def vec_Scale.ph (c56 : LV3 → LSpan → LV3) (c56ok : LV3 → LSpan → Bool) : Ph := fun args => match args with
  | [.agg ⟨[.float .f64 a0_0, .float .f64 a0_1, .float .f64 a0_2, .float .f64 a0_3, .float .f64 a0_4, .float .f64 a0_5]⟩, .agg ⟨[.float .f64 a1_0, .float .f64 a1_1]⟩] => some (c56ok (⟨⟨a0_0, a0_1⟩, ⟨a0_2, a0_3⟩, ⟨a0_4, a0_5⟩⟩ : LV3) (⟨a1_0, a1_1⟩ : LSpan), (c56 (⟨⟨a0_0, a0_1⟩, ⟨a0_2, a0_3⟩, ⟨a0_4, a0_5⟩⟩ : LV3) (⟨a1_0, a1_1⟩ : LSpan)).val)
  | _ => none
theorem vec_Scale.phOK : PhOK Tryz.prog 56 (vec_Scale.ph (vec_Scale M0) (vec_Scale.ok M0)) := ⟨by
  intro args v h
  unfold vec_Scale.ph at h
  split at h
  · rename_i a0_0 a0_1 a0_2 a0_3 a0_4 a0_5 a1_0 a1_1
    simp only [Option.some.injEq, Prod.mk.injEq] at h
    obtain ⟨hok, rfl⟩ := h
    exact ⟨rfl, rfl, vec_Scale.call (⟨⟨a0_0, a0_1⟩, ⟨a0_2, a0_3⟩, ⟨a0_4, a0_5⟩⟩ : LV3) (⟨a1_0, a1_1⟩ : LSpan) hok⟩
  · cases h⟩
def vec_each_Add.k (_ : Prims) (c62 : LSpan → LSpan → LSpan) (c62ok : LSpan → LSpan → Bool) (a : LV3) (b : LV3) (k : LV3 → R) : R :=
  cond (c62ok a.p0 b.p0)
    (cond (c62ok a.p1 b.p1)
       (cond (c62ok a.p2 b.p2)
          (k (⟨(c62 a.p0 b.p0), (c62 a.p1 b.p1), (c62 a.p2 b.p2)⟩ : LV3))
          (none))
       (none))
    (none)
def vec_each_Add (M : Prims) (a : LV3) (b : LV3) : LV3 :=
  (⟨(span_Add M a.p0 b.p0), (span_Add M a.p1 b.p1), (span_Add M a.p2 b.p2)⟩ : LV3)
def vec_each_Add.ok (M : Prims) (a : LV3) (b : LV3) : Bool :=
  cond (span_Add.ok M a.p0 b.p0)
    (cond (span_Add.ok M a.p1 b.p1)
       (cond (span_Add.ok M a.p2 b.p2)
          (true)
          (false))
       (false))
    (false)
def vec_each_Add.fns (c62 : LSpan → LSpan → LSpan) (c62ok : LSpan → LSpan → Bool) : FuncId → List Value → Option (Bool × Value) := ifId 62 (span_Add.ph c62 c62ok) <| noFns
theorem vec_each_Add.fnsOK : PureFns Tryz.prog (vec_each_Add.fns (span_Add M0) (span_Add.ok M0)) := ifIdOK span_Add.phOK <| noFnsOK
theorem vec_each_Add.ev (M : Prims) (c62 : LSpan → LSpan → LSpan) (c62ok : LSpan → LSpan → Bool)  (a : LV3) (b : LV3) : evP tab M (vec_each_Add.fns c62 c62ok) noLoops 300 Tryz.f89 [a.val, b.val, .func (.func 62) ⟨[]⟩ ⟨[]⟩] = vec_each_Add.k M c62 c62ok  a b (fun r => some (r.val, [])) := by kernel_rfl
theorem vec_each_Add.k_eq (M : Prims) (a : LV3) (b : LV3) (k : LV3 → R) : vec_each_Add.ok M a b = true → vec_each_Add.k M (span_Add M) (span_Add.ok M) a b k = k (vec_each_Add M a b) := by
  unfold vec_each_Add.ok vec_each_Add.k vec_each_Add
  exact kL (kL (kL (fun _ => rfl)))
theorem vec_each_Add.call (a : LV3) (b : LV3) (h : vec_each_Add.ok M0 a b = true) : PureOK Tryz.prog 89 [a.val, b.val, .func (.func 62) ⟨[]⟩ ⟨[]⟩] ((vec_each_Add M0 a b).val) :=
  evP_sound (P := Tryz.prog) mixed tabOK vec_each_Add.fnsOK Tryz.func89 rfl (Λ := noLoops) (c := Tryz.f89.body.getD .skip) rfl (noLoopsOK _) rfl (Nat.zero_le 1) rfl rfl ((vec_each_Add.ev M0 (span_Add M0) (span_Add.ok M0) a b).trans (vec_each_Add.k_eq M0 a b _ h))
def vec_each_Add.ph (c89_62 : LV3 → LV3 → LV3) (c89_62ok : LV3 → LV3 → Bool) : Ph := fun args => match args with
  | [.agg ⟨[.float .f64 a0_0, .float .f64 a0_1, .float .f64 a0_2, .float .f64 a0_3, .float .f64 a0_4, .float .f64 a0_5]⟩, .agg ⟨[.float .f64 a1_0, .float .f64 a1_1, .float .f64 a1_2, .float .f64 a1_3, .float .f64 a1_4, .float .f64 a1_5]⟩, .func (.func 62) ⟨[]⟩ ⟨[]⟩] => some (c89_62ok (⟨⟨a0_0, a0_1⟩, ⟨a0_2, a0_3⟩, ⟨a0_4, a0_5⟩⟩ : LV3) (⟨⟨a1_0, a1_1⟩, ⟨a1_2, a1_3⟩, ⟨a1_4, a1_5⟩⟩ : LV3), (c89_62 (⟨⟨a0_0, a0_1⟩, ⟨a0_2, a0_3⟩, ⟨a0_4, a0_5⟩⟩ : LV3) (⟨⟨a1_0, a1_1⟩, ⟨a1_2, a1_3⟩, ⟨a1_4, a1_5⟩⟩ : LV3)).val)
  | _ => none
theorem vec_each_Add.phOK : PhOK Tryz.prog 89 (vec_each_Add.ph (vec_each_Add M0) (vec_each_Add.ok M0)) := ⟨by
  intro args v h
  unfold vec_each_Add.ph at h
  split at h
  · rename_i a0_0 a0_1 a0_2 a0_3 a0_4 a0_5 a1_0 a1_1 a1_2 a1_3 a1_4 a1_5
    simp only [Option.some.injEq, Prod.mk.injEq] at h
    obtain ⟨hok, rfl⟩ := h
    exact ⟨rfl, rfl, vec_each_Add.call (⟨⟨a0_0, a0_1⟩, ⟨a0_2, a0_3⟩, ⟨a0_4, a0_5⟩⟩ : LV3) (⟨⟨a1_0, a1_1⟩, ⟨a1_2, a1_3⟩, ⟨a1_4, a1_5⟩⟩ : LV3) hok⟩
  · cases h⟩
def vec_Add.k (_ : Prims) (c89_62 : LV3 → LV3 → LV3) (c89_62ok : LV3 → LV3 → Bool) (a : LV3) (b : LV3) (k : LV3 → R) : R :=
  cond (c89_62ok a b)
    (k (c89_62 a b))
    (none)
def vec_Add (M : Prims) (a : LV3) (b : LV3) : LV3 :=
  (vec_each_Add M a b)
def vec_Add.ok (M : Prims) (a : LV3) (b : LV3) : Bool :=
  cond (vec_each_Add.ok M a b)
    (true)
    (false)
def vec_Add.fns (c89_62 : LV3 → LV3 → LV3) (c89_62ok : LV3 → LV3 → Bool) : FuncId → List Value → Option (Bool × Value) := ifId 89 (vec_each_Add.ph c89_62 c89_62ok) <| noFns
theorem vec_Add.fnsOK : PureFns Tryz.prog (vec_Add.fns (vec_each_Add M0) (vec_each_Add.ok M0)) := ifIdOK vec_each_Add.phOK <| noFnsOK
theorem vec_Add.ev (M : Prims) (c89_62 : LV3 → LV3 → LV3) (c89_62ok : LV3 → LV3 → Bool)  (a : LV3) (b : LV3) : evP tab M (vec_Add.fns c89_62 c89_62ok) noLoops 300 Tryz.f55 [a.val, b.val] = vec_Add.k M c89_62 c89_62ok  a b (fun r => some (r.val, [])) := by kernel_rfl
theorem vec_Add.k_eq (M : Prims) (a : LV3) (b : LV3) (k : LV3 → R) : vec_Add.ok M a b = true → vec_Add.k M (vec_each_Add M) (vec_each_Add.ok M) a b k = k (vec_Add M a b) := by
  unfold vec_Add.ok vec_Add.k vec_Add
  exact kL (fun _ => rfl)
theorem vec_Add.call (a : LV3) (b : LV3) (h : vec_Add.ok M0 a b = true) : PureOK Tryz.prog 55 [a.val, b.val] ((vec_Add M0 a b).val) :=
  evP_sound (P := Tryz.prog) mixed tabOK vec_Add.fnsOK Tryz.func55 rfl (Λ := noLoops) (c := Tryz.f55.body.getD .skip) rfl (noLoopsOK _) rfl (Nat.zero_le 1) rfl rfl ((vec_Add.ev M0 (vec_each_Add M0) (vec_each_Add.ok M0) a b).trans (vec_Add.k_eq M0 a b _ h))
def vec_Add.ph (c55 : LV3 → LV3 → LV3) (c55ok : LV3 → LV3 → Bool) : Ph := fun args => match args with
  | [.agg ⟨[.float .f64 a0_0, .float .f64 a0_1, .float .f64 a0_2, .float .f64 a0_3, .float .f64 a0_4, .float .f64 a0_5]⟩, .agg ⟨[.float .f64 a1_0, .float .f64 a1_1, .float .f64 a1_2, .float .f64 a1_3, .float .f64 a1_4, .float .f64 a1_5]⟩] => some (c55ok (⟨⟨a0_0, a0_1⟩, ⟨a0_2, a0_3⟩, ⟨a0_4, a0_5⟩⟩ : LV3) (⟨⟨a1_0, a1_1⟩, ⟨a1_2, a1_3⟩, ⟨a1_4, a1_5⟩⟩ : LV3), (c55 (⟨⟨a0_0, a0_1⟩, ⟨a0_2, a0_3⟩, ⟨a0_4, a0_5⟩⟩ : LV3) (⟨⟨a1_0, a1_1⟩, ⟨a1_2, a1_3⟩, ⟨a1_4, a1_5⟩⟩ : LV3)).val)
  | _ => none
theorem vec_Add.phOK : PhOK Tryz.prog 55 (vec_Add.ph (vec_Add M0) (vec_Add.ok M0)) := ⟨by
  intro args v h
  unfold vec_Add.ph at h
  split at h
  · rename_i a0_0 a0_1 a0_2 a0_3 a0_4 a0_5 a1_0 a1_1 a1_2 a1_3 a1_4 a1_5
    simp only [Option.some.injEq, Prod.mk.injEq] at h
    obtain ⟨hok, rfl⟩ := h
    exact ⟨rfl, rfl, vec_Add.call (⟨⟨a0_0, a0_1⟩, ⟨a0_2, a0_3⟩, ⟨a0_4, a0_5⟩⟩ : LV3) (⟨⟨a1_0, a1_1⟩, ⟨a1_2, a1_3⟩, ⟨a1_4, a1_5⟩⟩ : LV3) hok⟩
  · cases h⟩
def shape_Spread.k (_ : Prims) (c42 : LShape → LV3 × LV3) (c42ok : LShape → Bool) (c49 : LSpan → LSpan → LSpan) (c49ok : LSpan → LSpan → Bool) (c50 : Nat → LSpan) (c50ok : Nat → Bool) (c53 : LSpan → LSpan) (c53ok : LSpan → Bool) (c54 : LSpan → LSpan → LSpan) (c54ok : LSpan → LSpan → Bool) (c55 : LV3 → LV3 → LV3) (c55ok : LV3 → LV3 → Bool) (c56 : LV3 → LSpan → LV3) (c56ok : LV3 → LSpan → Bool) (s : LShape) (u : Nat) (v : Nat) (k : LV3 → R) : R :=
  cond ((s.kind : Int) != 1)
    (k (⟨(⟨0, 0⟩ : LSpan), (⟨0, 0⟩ : LSpan), (⟨0, 0⟩ : LSpan)⟩ : LV3))
    (let x2 := c50 u
     cond (c50ok u)
       (let x3 := c53 x2
        cond (c53ok x2)
          (let x4 := c42 s
           cond (c42ok s)
             (let x5 := c50 4607182418800017408
              cond (c50ok 4607182418800017408)
                (let x6 := c50 v
                 cond (c50ok v)
                   (let x7 := c54 x5 x6
                    cond (c54ok x5 x6)
                      (let x8 := c49 x3 x7
                       cond (c49ok x3 x7)
                         (let x9 := c50 v
                          cond (c50ok v)
                            (let x10 := c49 x3 x9
                             cond (c49ok x3 x9)
                               (let x11 := c56 x4.1 x8
                                cond (c56ok x4.1 x8)
                                  (let x12 := c56 x4.2 x10
                                   cond (c56ok x4.2 x10)
                                     (let x13 := c55 x11 x12
                                      cond (c55ok x11 x12)
                                        (cond (c55ok s.p.p0 x13)
                                           (k (c55 s.p.p0 x13))
                                           (none))
                                        (none))
                                     (none))
                                  (none))
                               (none))
                            (none))
                         (none))
                      (none))
                   (none))
                (none))
             (none))
          (none))
       (none))
def shape_Spread (M : Prims) (s : LShape) (u : Nat) (v : Nat) : LV3 :=
  cond ((s.kind : Int) != 1)
    ((⟨(⟨0, 0⟩ : LSpan), (⟨0, 0⟩ : LSpan), (⟨0, 0⟩ : LSpan)⟩ : LV3))
    (let x3 := span_Sqrt M (span_Of M u)
     let x4 := shape_edges M s
     (vec_Add M s.p.p0 (vec_Add M (vec_Scale M x4.1 (span_Mul M x3 (span_Sub M (span_Of M 4607182418800017408) (span_Of M v)))) (vec_Scale M x4.2 (span_Mul M x3 (span_Of M v))))))
def shape_Spread.ok (M : Prims) (s : LShape) (u : Nat) (v : Nat) : Bool :=
  cond ((s.kind : Int) != 1)
    (true)
    (let x2 := span_Of M u
     cond (span_Of.ok M u)
       (let x3 := span_Sqrt M x2
        cond (span_Sqrt.ok M x2)
          (let x4 := shape_edges M s
           cond (shape_edges.ok M s)
             (let x5 := span_Of M 4607182418800017408
              cond (span_Of.ok M 4607182418800017408)
                (let x6 := span_Of M v
                 cond (span_Of.ok M v)
                   (let x7 := span_Sub M x5 x6
                    cond (span_Sub.ok M x5 x6)
                      (let x8 := span_Mul M x3 x7
                       cond (span_Mul.ok M x3 x7)
                         (let x9 := span_Of M v
                          cond (span_Of.ok M v)
                            (let x10 := span_Mul M x3 x9
                             cond (span_Mul.ok M x3 x9)
                               (let x11 := vec_Scale M x4.1 x8
                                cond (vec_Scale.ok M x4.1 x8)
                                  (let x12 := vec_Scale M x4.2 x10
                                   cond (vec_Scale.ok M x4.2 x10)
                                     (cond (vec_Add.ok M x11 x12)
                                        (cond (vec_Add.ok M s.p.p0 (vec_Add M x11 x12))
                                           (true)
                                           (false))
                                        (false))
                                     (false))
                                  (false))
                               (false))
                            (false))
                         (false))
                      (false))
                   (false))
                (false))
             (false))
          (false))
       (false))
def shape_Spread.fns (c42 : LShape → LV3 × LV3) (c42ok : LShape → Bool) (c49 : LSpan → LSpan → LSpan) (c49ok : LSpan → LSpan → Bool) (c50 : Nat → LSpan) (c50ok : Nat → Bool) (c53 : LSpan → LSpan) (c53ok : LSpan → Bool) (c54 : LSpan → LSpan → LSpan) (c54ok : LSpan → LSpan → Bool) (c55 : LV3 → LV3 → LV3) (c55ok : LV3 → LV3 → Bool) (c56 : LV3 → LSpan → LV3) (c56ok : LV3 → LSpan → Bool) : FuncId → List Value → Option (Bool × Value) := ifId 42 (shape_edges.ph c42 c42ok) <| ifId 49 (span_Mul.ph c49 c49ok) <| ifId 50 (span_Of.ph c50 c50ok) <| ifId 53 (span_Sqrt.ph c53 c53ok) <| ifId 54 (span_Sub.ph c54 c54ok) <| ifId 55 (vec_Add.ph c55 c55ok) <| ifId 56 (vec_Scale.ph c56 c56ok) <| noFns
theorem shape_Spread.fnsOK : PureFns Tryz.prog (shape_Spread.fns (shape_edges M0) (shape_edges.ok M0) (span_Mul M0) (span_Mul.ok M0) (span_Of M0) (span_Of.ok M0) (span_Sqrt M0) (span_Sqrt.ok M0) (span_Sub M0) (span_Sub.ok M0) (vec_Add M0) (vec_Add.ok M0) (vec_Scale M0) (vec_Scale.ok M0)) := ifIdOK shape_edges.phOK <| ifIdOK span_Mul.phOK <| ifIdOK span_Of.phOK <| ifIdOK span_Sqrt.phOK <| ifIdOK span_Sub.phOK <| ifIdOK vec_Add.phOK <| ifIdOK vec_Scale.phOK <| noFnsOK
theorem shape_Spread.ev (M : Prims) (c42 : LShape → LV3 × LV3) (c42ok : LShape → Bool) (c49 : LSpan → LSpan → LSpan) (c49ok : LSpan → LSpan → Bool) (c50 : Nat → LSpan) (c50ok : Nat → Bool) (c53 : LSpan → LSpan) (c53ok : LSpan → Bool) (c54 : LSpan → LSpan → LSpan) (c54ok : LSpan → LSpan → Bool) (c55 : LV3 → LV3 → LV3) (c55ok : LV3 → LV3 → Bool) (c56 : LV3 → LSpan → LV3) (c56ok : LV3 → LSpan → Bool)  (s : LShape) (u : Nat) (v : Nat) : evP tab M (shape_Spread.fns c42 c42ok c49 c49ok c50 c50ok c53 c53ok c54 c54ok c55 c55ok c56 c56ok) noLoops 300 Tryz.f18 [s.val, (.float .f64 u), (.float .f64 v)] = shape_Spread.k M c42 c42ok c49 c49ok c50 c50ok c53 c53ok c54 c54ok c55 c55ok c56 c56ok  s u v (fun r => some (r.val, [])) := by kernel_rfl
theorem shape_Spread.k_eq (M : Prims) (s : LShape) (u : Nat) (v : Nat) (k : LV3 → R) : shape_Spread.ok M s u v = true → shape_Spread.k M (shape_edges M) (shape_edges.ok M) (span_Mul M) (span_Mul.ok M) (span_Of M) (span_Of.ok M) (span_Sqrt M) (span_Sqrt.ok M) (span_Sub M) (span_Sub.ok M) (vec_Add M) (vec_Add.ok M) (vec_Scale M) (vec_Scale.ok M) s u v k = k (shape_Spread M s u v) := by
  unfold shape_Spread.ok shape_Spread.k shape_Spread
  exact kC (fun _ => rfl) (kL (kL (kL (kL (kL (kL (kL (kL (kL (kL (kL (kL (kL (fun _ => rfl))))))))))))))
theorem shape_Spread.call (s : LShape) (u : Nat) (v : Nat) (h : shape_Spread.ok M0 s u v = true) : PureOK Tryz.prog 18 [s.val, (.float .f64 u), (.float .f64 v)] ((shape_Spread M0 s u v).val) :=
  evP_sound (P := Tryz.prog) mixed tabOK shape_Spread.fnsOK Tryz.func18 rfl (Λ := noLoops) (c := Tryz.f18.body.getD .skip) rfl (noLoopsOK _) rfl (Nat.zero_le 1) rfl rfl ((shape_Spread.ev M0 (shape_edges M0) (shape_edges.ok M0) (span_Mul M0) (span_Mul.ok M0) (span_Of M0) (span_Of.ok M0) (span_Sqrt M0) (span_Sqrt.ok M0) (span_Sub M0) (span_Sub.ok M0) (vec_Add M0) (vec_Add.ok M0) (vec_Scale M0) (vec_Scale.ok M0) s u v).trans (shape_Spread.k_eq M0 s u v _ h))
def shape_Spread.ph (c18 : LShape → Nat → Nat → LV3) (c18ok : LShape → Nat → Nat → Bool) : Ph := fun args => match args with
  | [.agg ⟨[.int .i64 a0_0, .float .f64 a0_1, .float .f64 a0_2, .float .f64 a0_3, .float .f64 a0_4, .float .f64 a0_5, .float .f64 a0_6, .float .f64 a0_7, .float .f64 a0_8, .float .f64 a0_9, .float .f64 a0_10, .float .f64 a0_11, .float .f64 a0_12, .float .f64 a0_13, .float .f64 a0_14, .float .f64 a0_15, .float .f64 a0_16, .float .f64 a0_17, .float .f64 a0_18, .float .f64 a0_19, .float .f64 a0_20]⟩, .float .f64 a1_, .float .f64 a2_] => some (c18ok (⟨a0_0, ⟨⟨⟨a0_1, a0_2⟩, ⟨a0_3, a0_4⟩, ⟨a0_5, a0_6⟩⟩, ⟨⟨a0_7, a0_8⟩, ⟨a0_9, a0_10⟩, ⟨a0_11, a0_12⟩⟩, ⟨⟨a0_13, a0_14⟩, ⟨a0_15, a0_16⟩, ⟨a0_17, a0_18⟩⟩⟩, ⟨a0_19, a0_20⟩⟩ : LShape) a1_ a2_, (c18 (⟨a0_0, ⟨⟨⟨a0_1, a0_2⟩, ⟨a0_3, a0_4⟩, ⟨a0_5, a0_6⟩⟩, ⟨⟨a0_7, a0_8⟩, ⟨a0_9, a0_10⟩, ⟨a0_11, a0_12⟩⟩, ⟨⟨a0_13, a0_14⟩, ⟨a0_15, a0_16⟩, ⟨a0_17, a0_18⟩⟩⟩, ⟨a0_19, a0_20⟩⟩ : LShape) a1_ a2_).val)
  | _ => none
theorem shape_Spread.phOK : PhOK Tryz.prog 18 (shape_Spread.ph (shape_Spread M0) (shape_Spread.ok M0)) := ⟨by
  intro args v h
  unfold shape_Spread.ph at h
  split at h
  · rename_i a0_0 a0_1 a0_2 a0_3 a0_4 a0_5 a0_6 a0_7 a0_8 a0_9 a0_10 a0_11 a0_12 a0_13 a0_14 a0_15 a0_16 a0_17 a0_18 a0_19 a0_20 a1_ a2_
    simp only [Option.some.injEq, Prod.mk.injEq] at h
    obtain ⟨hok, rfl⟩ := h
    exact ⟨rfl, rfl, shape_Spread.call (⟨a0_0, ⟨⟨⟨a0_1, a0_2⟩, ⟨a0_3, a0_4⟩, ⟨a0_5, a0_6⟩⟩, ⟨⟨a0_7, a0_8⟩, ⟨a0_9, a0_10⟩, ⟨a0_11, a0_12⟩⟩, ⟨⟨a0_13, a0_14⟩, ⟨a0_15, a0_16⟩, ⟨a0_17, a0_18⟩⟩⟩, ⟨a0_19, a0_20⟩⟩ : LShape) a1_ a2_ hok⟩
  · cases h⟩
def lanternref03_All3.k (_ : Prims) (s : LSpan) (k : LV3 → R) : R :=
  k (⟨s, s, s⟩ : LV3)
def lanternref03_All3 (_ : Prims) (s : LSpan) : LV3 :=
  (⟨s, s, s⟩ : LV3)
def lanternref03_All3.fns : FuncId → List Value → Option (Bool × Value) := noFns
theorem lanternref03_All3.fnsOK : PureFns Tryz.prog lanternref03_All3.fns := noFnsOK
theorem lanternref03_All3.ev (M : Prims)   (s : LSpan) : evP tab M lanternref03_All3.fns noLoops 300 Tryz.f108 [s.val] = lanternref03_All3.k M   s (fun r => some (r.val, [])) := by kernel_rfl
theorem lanternref03_All3.k_eq (M : Prims) (s : LSpan) (k : LV3 → R) : lanternref03_All3.k M  s k = k (lanternref03_All3 M s) := by
  unfold lanternref03_All3.k lanternref03_All3
  exact rfl
theorem lanternref03_All3.call (s : LSpan) : PureOK Tryz.prog 108 [s.val] ((lanternref03_All3 M0 s).val) :=
  evP_sound (P := Tryz.prog) mixed tabOK lanternref03_All3.fnsOK Tryz.func108 rfl (Λ := noLoops) (c := Tryz.f108.body.getD .skip) rfl (noLoopsOK _) rfl (Nat.zero_le 1) rfl rfl ((lanternref03_All3.ev M0  s).trans (lanternref03_All3.k_eq M0 s _))
def lanternref03_All3.ph (c108 : LSpan → LV3) : Ph := fun args => match args with
  | [.agg ⟨[.float .f64 a0_0, .float .f64 a0_1]⟩] => some (true, (c108 (⟨a0_0, a0_1⟩ : LSpan)).val)
  | _ => none
theorem lanternref03_All3.phOK : PhOK Tryz.prog 108 (lanternref03_All3.ph (lanternref03_All3 M0)) := ⟨by
  intro args v h
  unfold lanternref03_All3.ph at h
  split at h
  · rename_i a0_0 a0_1
    simp only [Option.some.injEq, Prod.mk.injEq, true_and] at h
    subst h
    exact ⟨rfl, rfl, lanternref03_All3.call (⟨a0_0, a0_1⟩ : LSpan)⟩
  · cases h⟩
def lanternref03_Times.k (_ : Prims) (c51 : LSpan → LSpan → LSpan) (c51ok : LSpan → LSpan → Bool) (a : LV3) (b : LV3) (k : LV3 → R) : R :=
  cond (c51ok a.p0 b.p0)
    (cond (c51ok a.p1 b.p1)
       (cond (c51ok a.p2 b.p2)
          (k (⟨(c51 a.p0 b.p0), (c51 a.p1 b.p1), (c51 a.p2 b.p2)⟩ : LV3))
          (none))
       (none))
    (none)
def lanternref03_Times (M : Prims) (a : LV3) (b : LV3) : LV3 :=
  (⟨(lanternref02_Mul M a.p0 b.p0), (lanternref02_Mul M a.p1 b.p1), (lanternref02_Mul M a.p2 b.p2)⟩ : LV3)
def lanternref03_Times.ok (M : Prims) (a : LV3) (b : LV3) : Bool :=
  cond (lanternref02_Mul.ok M a.p0 b.p0)
    (cond (lanternref02_Mul.ok M a.p1 b.p1)
       (cond (lanternref02_Mul.ok M a.p2 b.p2)
          (true)
          (false))
       (false))
    (false)
def lanternref03_Times.fns (c51 : LSpan → LSpan → LSpan) (c51ok : LSpan → LSpan → Bool) : FuncId → List Value → Option (Bool × Value) := ifId 51 (lanternref02_Mul.ph c51 c51ok) <| noFns
theorem lanternref03_Times.fnsOK : PureFns Tryz.prog (lanternref03_Times.fns (lanternref02_Mul M0) (lanternref02_Mul.ok M0)) := ifIdOK lanternref02_Mul.phOK <| noFnsOK
theorem lanternref03_Times.ev (M : Prims) (c51 : LSpan → LSpan → LSpan) (c51ok : LSpan → LSpan → Bool)  (a : LV3) (b : LV3) : evP tab M (lanternref03_Times.fns c51 c51ok) noLoops 300 Tryz.f107 [a.val, b.val] = lanternref03_Times.k M c51 c51ok  a b (fun r => some (r.val, [])) := by kernel_rfl
theorem lanternref03_Times.k_eq (M : Prims) (a : LV3) (b : LV3) (k : LV3 → R) : lanternref03_Times.ok M a b = true → lanternref03_Times.k M (lanternref02_Mul M) (lanternref02_Mul.ok M) a b k = k (lanternref03_Times M a b) := by
  unfold lanternref03_Times.ok lanternref03_Times.k lanternref03_Times
  exact kL (kL (kL (fun _ => rfl)))
theorem lanternref03_Times.call (a : LV3) (b : LV3) (h : lanternref03_Times.ok M0 a b = true) : PureOK Tryz.prog 107 [a.val, b.val] ((lanternref03_Times M0 a b).val) :=
  evP_sound (P := Tryz.prog) mixed tabOK lanternref03_Times.fnsOK Tryz.func107 rfl (Λ := noLoops) (c := Tryz.f107.body.getD .skip) rfl (noLoopsOK _) rfl (Nat.zero_le 1) rfl rfl ((lanternref03_Times.ev M0 (lanternref02_Mul M0) (lanternref02_Mul.ok M0) a b).trans (lanternref03_Times.k_eq M0 a b _ h))
def lanternref03_Times.ph (c107 : LV3 → LV3 → LV3) (c107ok : LV3 → LV3 → Bool) : Ph := fun args => match args with
  | [.agg ⟨[.float .f64 a0_0, .float .f64 a0_1, .float .f64 a0_2, .float .f64 a0_3, .float .f64 a0_4, .float .f64 a0_5]⟩, .agg ⟨[.float .f64 a1_0, .float .f64 a1_1, .float .f64 a1_2, .float .f64 a1_3, .float .f64 a1_4, .float .f64 a1_5]⟩] => some (c107ok (⟨⟨a0_0, a0_1⟩, ⟨a0_2, a0_3⟩, ⟨a0_4, a0_5⟩⟩ : LV3) (⟨⟨a1_0, a1_1⟩, ⟨a1_2, a1_3⟩, ⟨a1_4, a1_5⟩⟩ : LV3), (c107 (⟨⟨a0_0, a0_1⟩, ⟨a0_2, a0_3⟩, ⟨a0_4, a0_5⟩⟩ : LV3) (⟨⟨a1_0, a1_1⟩, ⟨a1_2, a1_3⟩, ⟨a1_4, a1_5⟩⟩ : LV3)).val)
  | _ => none
theorem lanternref03_Times.phOK : PhOK Tryz.prog 107 (lanternref03_Times.ph (lanternref03_Times M0) (lanternref03_Times.ok M0)) := ⟨by
  intro args v h
  unfold lanternref03_Times.ph at h
  split at h
  · rename_i a0_0 a0_1 a0_2 a0_3 a0_4 a0_5 a1_0 a1_1 a1_2 a1_3 a1_4 a1_5
    simp only [Option.some.injEq, Prod.mk.injEq] at h
    obtain ⟨hok, rfl⟩ := h
    exact ⟨rfl, rfl, lanternref03_Times.call (⟨⟨a0_0, a0_1⟩, ⟨a0_2, a0_3⟩, ⟨a0_4, a0_5⟩⟩ : LV3) (⟨⟨a1_0, a1_1⟩, ⟨a1_2, a1_3⟩, ⟨a1_4, a1_5⟩⟩ : LV3) hok⟩
  · cases h⟩
def lanternref03_Scale.k (_ : Prims) (c107 : LV3 → LV3 → LV3) (c107ok : LV3 → LV3 → Bool) (c108 : LSpan → LV3) (a : LV3) (s : LSpan) (k : LV3 → R) : R :=
  let x1 := c108 s
  cond (c107ok a x1)
    (k (c107 a x1))
    (none)
def lanternref03_Scale (M : Prims) (a : LV3) (s : LSpan) : LV3 :=
  (lanternref03_Times M a (lanternref03_All3 M s))
def lanternref03_Scale.ok (M : Prims) (a : LV3) (s : LSpan) : Bool :=
  cond (lanternref03_Times.ok M a (lanternref03_All3 M s))
    (true)
    (false)
def lanternref03_Scale.fns (c107 : LV3 → LV3 → LV3) (c107ok : LV3 → LV3 → Bool) (c108 : LSpan → LV3) : FuncId → List Value → Option (Bool × Value) := ifId 107 (lanternref03_Times.ph c107 c107ok) <| ifId 108 (lanternref03_All3.ph c108) <| noFns
theorem lanternref03_Scale.fnsOK : PureFns Tryz.prog (lanternref03_Scale.fns (lanternref03_Times M0) (lanternref03_Times.ok M0) (lanternref03_All3 M0)) := ifIdOK lanternref03_Times.phOK <| ifIdOK lanternref03_All3.phOK <| noFnsOK
theorem lanternref03_Scale.ev (M : Prims) (c107 : LV3 → LV3 → LV3) (c107ok : LV3 → LV3 → Bool) (c108 : LSpan → LV3)  (a : LV3) (s : LSpan) : evP tab M (lanternref03_Scale.fns c107 c107ok c108) noLoops 300 Tryz.f60 [a.val, s.val] = lanternref03_Scale.k M c107 c107ok c108  a s (fun r => some (r.val, [])) := by kernel_rfl
theorem lanternref03_Scale.k_eq (M : Prims) (a : LV3) (s : LSpan) (k : LV3 → R) : lanternref03_Scale.ok M a s = true → lanternref03_Scale.k M (lanternref03_Times M) (lanternref03_Times.ok M) (lanternref03_All3 M) a s k = k (lanternref03_Scale M a s) := by
  unfold lanternref03_Scale.ok lanternref03_Scale.k lanternref03_Scale
  exact kL (fun _ => rfl)
theorem lanternref03_Scale.call (a : LV3) (s : LSpan) (h : lanternref03_Scale.ok M0 a s = true) : PureOK Tryz.prog 60 [a.val, s.val] ((lanternref03_Scale M0 a s).val) :=
  evP_sound (P := Tryz.prog) mixed tabOK lanternref03_Scale.fnsOK Tryz.func60 rfl (Λ := noLoops) (c := Tryz.f60.body.getD .skip) rfl (noLoopsOK _) rfl (Nat.zero_le 1) rfl rfl ((lanternref03_Scale.ev M0 (lanternref03_Times M0) (lanternref03_Times.ok M0) (lanternref03_All3 M0) a s).trans (lanternref03_Scale.k_eq M0 a s _ h))
def lanternref03_Scale.ph (c60 : LV3 → LSpan → LV3) (c60ok : LV3 → LSpan → Bool) : Ph := fun args => match args with
  | [.agg ⟨[.float .f64 a0_0, .float .f64 a0_1, .float .f64 a0_2, .float .f64 a0_3, .float .f64 a0_4, .float .f64 a0_5]⟩, .agg ⟨[.float .f64 a1_0, .float .f64 a1_1]⟩] => some (c60ok (⟨⟨a0_0, a0_1⟩, ⟨a0_2, a0_3⟩, ⟨a0_4, a0_5⟩⟩ : LV3) (⟨a1_0, a1_1⟩ : LSpan), (c60 (⟨⟨a0_0, a0_1⟩, ⟨a0_2, a0_3⟩, ⟨a0_4, a0_5⟩⟩ : LV3) (⟨a1_0, a1_1⟩ : LSpan)).val)
  | _ => none
theorem lanternref03_Scale.phOK : PhOK Tryz.prog 60 (lanternref03_Scale.ph (lanternref03_Scale M0) (lanternref03_Scale.ok M0)) := ⟨by
  intro args v h
  unfold lanternref03_Scale.ph at h
  split at h
  · rename_i a0_0 a0_1 a0_2 a0_3 a0_4 a0_5 a1_0 a1_1
    simp only [Option.some.injEq, Prod.mk.injEq] at h
    obtain ⟨hok, rfl⟩ := h
    exact ⟨rfl, rfl, lanternref03_Scale.call (⟨⟨a0_0, a0_1⟩, ⟨a0_2, a0_3⟩, ⟨a0_4, a0_5⟩⟩ : LV3) (⟨a1_0, a1_1⟩ : LSpan) hok⟩
  · cases h⟩
def lanternref03_Add.k (_ : Prims) (c64 : LSpan → LSpan → LSpan) (c64ok : LSpan → LSpan → Bool) (a : LV3) (b : LV3) (k : LV3 → R) : R :=
  cond (c64ok a.p0 b.p0)
    (cond (c64ok a.p1 b.p1)
       (cond (c64ok a.p2 b.p2)
          (k (⟨(c64 a.p0 b.p0), (c64 a.p1 b.p1), (c64 a.p2 b.p2)⟩ : LV3))
          (none))
       (none))
    (none)
def lanternref03_Add (M : Prims) (a : LV3) (b : LV3) : LV3 :=
  (⟨(lanternref02_Add M a.p0 b.p0), (lanternref02_Add M a.p1 b.p1), (lanternref02_Add M a.p2 b.p2)⟩ : LV3)
def lanternref03_Add.ok (M : Prims) (a : LV3) (b : LV3) : Bool :=
  cond (lanternref02_Add.ok M a.p0 b.p0)
    (cond (lanternref02_Add.ok M a.p1 b.p1)
       (cond (lanternref02_Add.ok M a.p2 b.p2)
          (true)
          (false))
       (false))
    (false)
def lanternref03_Add.fns (c64 : LSpan → LSpan → LSpan) (c64ok : LSpan → LSpan → Bool) : FuncId → List Value → Option (Bool × Value) := ifId 64 (lanternref02_Add.ph c64 c64ok) <| noFns
theorem lanternref03_Add.fnsOK : PureFns Tryz.prog (lanternref03_Add.fns (lanternref02_Add M0) (lanternref02_Add.ok M0)) := ifIdOK lanternref02_Add.phOK <| noFnsOK
theorem lanternref03_Add.ev (M : Prims) (c64 : LSpan → LSpan → LSpan) (c64ok : LSpan → LSpan → Bool)  (a : LV3) (b : LV3) : evP tab M (lanternref03_Add.fns c64 c64ok) noLoops 300 Tryz.f59 [a.val, b.val] = lanternref03_Add.k M c64 c64ok  a b (fun r => some (r.val, [])) := by kernel_rfl
theorem lanternref03_Add.k_eq (M : Prims) (a : LV3) (b : LV3) (k : LV3 → R) : lanternref03_Add.ok M a b = true → lanternref03_Add.k M (lanternref02_Add M) (lanternref02_Add.ok M) a b k = k (lanternref03_Add M a b) := by
  unfold lanternref03_Add.ok lanternref03_Add.k lanternref03_Add
  exact kL (kL (kL (fun _ => rfl)))
theorem lanternref03_Add.call (a : LV3) (b : LV3) (h : lanternref03_Add.ok M0 a b = true) : PureOK Tryz.prog 59 [a.val, b.val] ((lanternref03_Add M0 a b).val) :=
  evP_sound (P := Tryz.prog) mixed tabOK lanternref03_Add.fnsOK Tryz.func59 rfl (Λ := noLoops) (c := Tryz.f59.body.getD .skip) rfl (noLoopsOK _) rfl (Nat.zero_le 1) rfl rfl ((lanternref03_Add.ev M0 (lanternref02_Add M0) (lanternref02_Add.ok M0) a b).trans (lanternref03_Add.k_eq M0 a b _ h))
def lanternref03_Add.ph (c59 : LV3 → LV3 → LV3) (c59ok : LV3 → LV3 → Bool) : Ph := fun args => match args with
  | [.agg ⟨[.float .f64 a0_0, .float .f64 a0_1, .float .f64 a0_2, .float .f64 a0_3, .float .f64 a0_4, .float .f64 a0_5]⟩, .agg ⟨[.float .f64 a1_0, .float .f64 a1_1, .float .f64 a1_2, .float .f64 a1_3, .float .f64 a1_4, .float .f64 a1_5]⟩] => some (c59ok (⟨⟨a0_0, a0_1⟩, ⟨a0_2, a0_3⟩, ⟨a0_4, a0_5⟩⟩ : LV3) (⟨⟨a1_0, a1_1⟩, ⟨a1_2, a1_3⟩, ⟨a1_4, a1_5⟩⟩ : LV3), (c59 (⟨⟨a0_0, a0_1⟩, ⟨a0_2, a0_3⟩, ⟨a0_4, a0_5⟩⟩ : LV3) (⟨⟨a1_0, a1_1⟩, ⟨a1_2, a1_3⟩, ⟨a1_4, a1_5⟩⟩ : LV3)).val)
  | _ => none
theorem lanternref03_Add.phOK : PhOK Tryz.prog 59 (lanternref03_Add.ph (lanternref03_Add M0) (lanternref03_Add.ok M0)) := ⟨by
  intro args v h
  unfold lanternref03_Add.ph at h
  split at h
  · rename_i a0_0 a0_1 a0_2 a0_3 a0_4 a0_5 a1_0 a1_1 a1_2 a1_3 a1_4 a1_5
    simp only [Option.some.injEq, Prod.mk.injEq] at h
    obtain ⟨hok, rfl⟩ := h
    exact ⟨rfl, rfl, lanternref03_Add.call (⟨⟨a0_0, a0_1⟩, ⟨a0_2, a0_3⟩, ⟨a0_4, a0_5⟩⟩ : LV3) (⟨⟨a1_0, a1_1⟩, ⟨a1_2, a1_3⟩, ⟨a1_4, a1_5⟩⟩ : LV3) hok⟩
  · cases h⟩
def lanternref10_Spread.k (_ : Prims) (c45 : LShape → LV3 × LV3) (c45ok : LShape → Bool) (c51 : LSpan → LSpan → LSpan) (c51ok : LSpan → LSpan → Bool) (c52 : Nat → LSpan) (c57 : LSpan → LSpan) (c57ok : LSpan → Bool) (c58 : LSpan → LSpan → LSpan) (c58ok : LSpan → LSpan → Bool) (c59 : LV3 → LV3 → LV3) (c59ok : LV3 → LV3 → Bool) (c60 : LV3 → LSpan → LV3) (c60ok : LV3 → LSpan → Bool) (s : LShape) (u : Nat) (v : Nat) (k : LV3 → R) : R :=
  cond ((s.kind : Int) != 1)
    (k (⟨(⟨0, 0⟩ : LSpan), (⟨0, 0⟩ : LSpan), (⟨0, 0⟩ : LSpan)⟩ : LV3))
    (let x2 := c52 u
     let x3 := c57 x2
     cond (c57ok x2)
       (let x4 := c45 s
        cond (c45ok s)
          (let x5 := c52 4607182418800017408
           let x6 := c52 v
           let x7 := c58 x5 x6
           cond (c58ok x5 x6)
             (let x8 := c51 x3 x7
              cond (c51ok x3 x7)
                (let x9 := c52 v
                 let x10 := c51 x3 x9
                 cond (c51ok x3 x9)
                   (let x11 := c60 x4.1 x8
                    cond (c60ok x4.1 x8)
                      (let x12 := c60 x4.2 x10
                       cond (c60ok x4.2 x10)
                         (let x13 := c59 x11 x12
                          cond (c59ok x11 x12)
                            (cond (c59ok s.p.p0 x13)
                               (k (c59 s.p.p0 x13))
                               (none))
                            (none))
                         (none))
                      (none))
                   (none))
                (none))
             (none))
          (none))
       (none))
def lanternref10_Spread (M : Prims) (s : LShape) (u : Nat) (v : Nat) : LV3 :=
  cond ((s.kind : Int) != 1)
    ((⟨(⟨0, 0⟩ : LSpan), (⟨0, 0⟩ : LSpan), (⟨0, 0⟩ : LSpan)⟩ : LV3))
    (let x3 := lanternref02_Sqrt M (lanternref02_Of M u)
     let x4 := lanternref10_sides M s
     (lanternref03_Add M s.p.p0 (lanternref03_Add M (lanternref03_Scale M x4.1 (lanternref02_Mul M x3 (lanternref02_Sub M (lanternref02_Of M 4607182418800017408) (lanternref02_Of M v)))) (lanternref03_Scale M x4.2 (lanternref02_Mul M x3 (lanternref02_Of M v))))))
def lanternref10_Spread.ok (M : Prims) (s : LShape) (u : Nat) (v : Nat) : Bool :=
  cond ((s.kind : Int) != 1)
    (true)
    (let x2 := lanternref02_Of M u
     let x3 := lanternref02_Sqrt M x2
     cond (lanternref02_Sqrt.ok M x2)
       (let x4 := lanternref10_sides M s
        cond (lanternref10_sides.ok M s)
          (let x5 := lanternref02_Of M 4607182418800017408
           let x6 := lanternref02_Of M v
           let x7 := lanternref02_Sub M x5 x6
           cond (lanternref02_Sub.ok M x5 x6)
             (let x8 := lanternref02_Mul M x3 x7
              cond (lanternref02_Mul.ok M x3 x7)
                (let x9 := lanternref02_Of M v
                 let x10 := lanternref02_Mul M x3 x9
                 cond (lanternref02_Mul.ok M x3 x9)
                   (let x11 := lanternref03_Scale M x4.1 x8
                    cond (lanternref03_Scale.ok M x4.1 x8)
                      (let x12 := lanternref03_Scale M x4.2 x10
                       cond (lanternref03_Scale.ok M x4.2 x10)
                         (cond (lanternref03_Add.ok M x11 x12)
                            (cond (lanternref03_Add.ok M s.p.p0 (lanternref03_Add M x11 x12))
                               (true)
                               (false))
                            (false))
                         (false))
                      (false))
                   (false))
                (false))
             (false))
          (false))
       (false))
def lanternref10_Spread.fns (c45 : LShape → LV3 × LV3) (c45ok : LShape → Bool) (c51 : LSpan → LSpan → LSpan) (c51ok : LSpan → LSpan → Bool) (c52 : Nat → LSpan) (c57 : LSpan → LSpan) (c57ok : LSpan → Bool) (c58 : LSpan → LSpan → LSpan) (c58ok : LSpan → LSpan → Bool) (c59 : LV3 → LV3 → LV3) (c59ok : LV3 → LV3 → Bool) (c60 : LV3 → LSpan → LV3) (c60ok : LV3 → LSpan → Bool) : FuncId → List Value → Option (Bool × Value) := ifId 45 (lanternref10_sides.ph c45 c45ok) <| ifId 51 (lanternref02_Mul.ph c51 c51ok) <| ifId 52 (lanternref02_Of.ph c52) <| ifId 57 (lanternref02_Sqrt.ph c57 c57ok) <| ifId 58 (lanternref02_Sub.ph c58 c58ok) <| ifId 59 (lanternref03_Add.ph c59 c59ok) <| ifId 60 (lanternref03_Scale.ph c60 c60ok) <| noFns
theorem lanternref10_Spread.fnsOK : PureFns Tryz.prog (lanternref10_Spread.fns (lanternref10_sides M0) (lanternref10_sides.ok M0) (lanternref02_Mul M0) (lanternref02_Mul.ok M0) (lanternref02_Of M0) (lanternref02_Sqrt M0) (lanternref02_Sqrt.ok M0) (lanternref02_Sub M0) (lanternref02_Sub.ok M0) (lanternref03_Add M0) (lanternref03_Add.ok M0) (lanternref03_Scale M0) (lanternref03_Scale.ok M0)) := ifIdOK lanternref10_sides.phOK <| ifIdOK lanternref02_Mul.phOK <| ifIdOK lanternref02_Of.phOK <| ifIdOK lanternref02_Sqrt.phOK <| ifIdOK lanternref02_Sub.phOK <| ifIdOK lanternref03_Add.phOK <| ifIdOK lanternref03_Scale.phOK <| noFnsOK
theorem lanternref10_Spread.ev (M : Prims) (c45 : LShape → LV3 × LV3) (c45ok : LShape → Bool) (c51 : LSpan → LSpan → LSpan) (c51ok : LSpan → LSpan → Bool) (c52 : Nat → LSpan) (c57 : LSpan → LSpan) (c57ok : LSpan → Bool) (c58 : LSpan → LSpan → LSpan) (c58ok : LSpan → LSpan → Bool) (c59 : LV3 → LV3 → LV3) (c59ok : LV3 → LV3 → Bool) (c60 : LV3 → LSpan → LV3) (c60ok : LV3 → LSpan → Bool)  (s : LShape) (u : Nat) (v : Nat) : evP tab M (lanternref10_Spread.fns c45 c45ok c51 c51ok c52 c57 c57ok c58 c58ok c59 c59ok c60 c60ok) noLoops 300 Tryz.f19 [s.val, (.float .f64 u), (.float .f64 v)] = lanternref10_Spread.k M c45 c45ok c51 c51ok c52 c57 c57ok c58 c58ok c59 c59ok c60 c60ok  s u v (fun r => some (r.val, [])) := by kernel_rfl
theorem lanternref10_Spread.k_eq (M : Prims) (s : LShape) (u : Nat) (v : Nat) (k : LV3 → R) : lanternref10_Spread.ok M s u v = true → lanternref10_Spread.k M (lanternref10_sides M) (lanternref10_sides.ok M) (lanternref02_Mul M) (lanternref02_Mul.ok M) (lanternref02_Of M) (lanternref02_Sqrt M) (lanternref02_Sqrt.ok M) (lanternref02_Sub M) (lanternref02_Sub.ok M) (lanternref03_Add M) (lanternref03_Add.ok M) (lanternref03_Scale M) (lanternref03_Scale.ok M) s u v k = k (lanternref10_Spread M s u v) := by
  unfold lanternref10_Spread.ok lanternref10_Spread.k lanternref10_Spread
  exact kC (fun _ => rfl) (kL (kL (kL (kL (kL (kL (kL (kL (kL (fun _ => rfl))))))))))
theorem lanternref10_Spread.call (s : LShape) (u : Nat) (v : Nat) (h : lanternref10_Spread.ok M0 s u v = true) : PureOK Tryz.prog 19 [s.val, (.float .f64 u), (.float .f64 v)] ((lanternref10_Spread M0 s u v).val) :=
  evP_sound (P := Tryz.prog) mixed tabOK lanternref10_Spread.fnsOK Tryz.func19 rfl (Λ := noLoops) (c := Tryz.f19.body.getD .skip) rfl (noLoopsOK _) rfl (Nat.zero_le 1) rfl rfl ((lanternref10_Spread.ev M0 (lanternref10_sides M0) (lanternref10_sides.ok M0) (lanternref02_Mul M0) (lanternref02_Mul.ok M0) (lanternref02_Of M0) (lanternref02_Sqrt M0) (lanternref02_Sqrt.ok M0) (lanternref02_Sub M0) (lanternref02_Sub.ok M0) (lanternref03_Add M0) (lanternref03_Add.ok M0) (lanternref03_Scale M0) (lanternref03_Scale.ok M0) s u v).trans (lanternref10_Spread.k_eq M0 s u v _ h))
def lanternref10_Spread.ph (c19 : LShape → Nat → Nat → LV3) (c19ok : LShape → Nat → Nat → Bool) : Ph := fun args => match args with
  | [.agg ⟨[.int .i64 a0_0, .float .f64 a0_1, .float .f64 a0_2, .float .f64 a0_3, .float .f64 a0_4, .float .f64 a0_5, .float .f64 a0_6, .float .f64 a0_7, .float .f64 a0_8, .float .f64 a0_9, .float .f64 a0_10, .float .f64 a0_11, .float .f64 a0_12, .float .f64 a0_13, .float .f64 a0_14, .float .f64 a0_15, .float .f64 a0_16, .float .f64 a0_17, .float .f64 a0_18, .float .f64 a0_19, .float .f64 a0_20]⟩, .float .f64 a1_, .float .f64 a2_] => some (c19ok (⟨a0_0, ⟨⟨⟨a0_1, a0_2⟩, ⟨a0_3, a0_4⟩, ⟨a0_5, a0_6⟩⟩, ⟨⟨a0_7, a0_8⟩, ⟨a0_9, a0_10⟩, ⟨a0_11, a0_12⟩⟩, ⟨⟨a0_13, a0_14⟩, ⟨a0_15, a0_16⟩, ⟨a0_17, a0_18⟩⟩⟩, ⟨a0_19, a0_20⟩⟩ : LShape) a1_ a2_, (c19 (⟨a0_0, ⟨⟨⟨a0_1, a0_2⟩, ⟨a0_3, a0_4⟩, ⟨a0_5, a0_6⟩⟩, ⟨⟨a0_7, a0_8⟩, ⟨a0_9, a0_10⟩, ⟨a0_11, a0_12⟩⟩, ⟨⟨a0_13, a0_14⟩, ⟨a0_15, a0_16⟩, ⟨a0_17, a0_18⟩⟩⟩, ⟨a0_19, a0_20⟩⟩ : LShape) a1_ a2_).val)
  | _ => none
theorem lanternref10_Spread.phOK : PhOK Tryz.prog 19 (lanternref10_Spread.ph (lanternref10_Spread M0) (lanternref10_Spread.ok M0)) := ⟨by
  intro args v h
  unfold lanternref10_Spread.ph at h
  split at h
  · rename_i a0_0 a0_1 a0_2 a0_3 a0_4 a0_5 a0_6 a0_7 a0_8 a0_9 a0_10 a0_11 a0_12 a0_13 a0_14 a0_15 a0_16 a0_17 a0_18 a0_19 a0_20 a1_ a2_
    simp only [Option.some.injEq, Prod.mk.injEq] at h
    obtain ⟨hok, rfl⟩ := h
    exact ⟨rfl, rfl, lanternref10_Spread.call (⟨a0_0, ⟨⟨⟨a0_1, a0_2⟩, ⟨a0_3, a0_4⟩, ⟨a0_5, a0_6⟩⟩, ⟨⟨a0_7, a0_8⟩, ⟨a0_9, a0_10⟩, ⟨a0_11, a0_12⟩⟩, ⟨⟨a0_13, a0_14⟩, ⟨a0_15, a0_16⟩, ⟨a0_17, a0_18⟩⟩⟩, ⟨a0_19, a0_20⟩⟩ : LShape) a1_ a2_ hok⟩
  · cases h⟩
def span_Hull.k (M : Prims) (a : LSpan) (b : LSpan) (k : LSpan → R) : R :=
  k (⟨(M.min a.lo b.lo), (M.max a.hi b.hi)⟩ : LSpan)
def span_Hull (M : Prims) (a : LSpan) (b : LSpan) : LSpan :=
  (⟨(M.min a.lo b.lo), (M.max a.hi b.hi)⟩ : LSpan)
def span_Hull.fns : FuncId → List Value → Option (Bool × Value) := noFns
theorem span_Hull.fnsOK : PureFns Tryz.prog span_Hull.fns := noFnsOK
theorem span_Hull.ev (M : Prims)   (a : LSpan) (b : LSpan) : evP tab M span_Hull.fns noLoops 300 Tryz.f61 [a.val, b.val] = span_Hull.k M   a b (fun r => some (r.val, [])) := by kernel_rfl
theorem span_Hull.k_eq (M : Prims) (a : LSpan) (b : LSpan) (k : LSpan → R) : span_Hull.k M  a b k = k (span_Hull M a b) := by
  unfold span_Hull.k span_Hull
  exact rfl
theorem span_Hull.call (a : LSpan) (b : LSpan) : PureOK Tryz.prog 61 [a.val, b.val] ((span_Hull M0 a b).val) :=
  evP_sound (P := Tryz.prog) mixed tabOK span_Hull.fnsOK Tryz.func61 rfl (Λ := noLoops) (c := Tryz.f61.body.getD .skip) rfl (noLoopsOK _) rfl (Nat.zero_le 1) rfl rfl ((span_Hull.ev M0  a b).trans (span_Hull.k_eq M0 a b _))
def span_Hull.ph (c61 : LSpan → LSpan → LSpan) : Ph := fun args => match args with
  | [.agg ⟨[.float .f64 a0_0, .float .f64 a0_1]⟩, .agg ⟨[.float .f64 a1_0, .float .f64 a1_1]⟩] => some (true, (c61 (⟨a0_0, a0_1⟩ : LSpan) (⟨a1_0, a1_1⟩ : LSpan)).val)
  | _ => none
theorem span_Hull.phOK : PhOK Tryz.prog 61 (span_Hull.ph (span_Hull M0)) := ⟨by
  intro args v h
  unfold span_Hull.ph at h
  split at h
  · rename_i a0_0 a0_1 a1_0 a1_1
    simp only [Option.some.injEq, Prod.mk.injEq, true_and] at h
    subst h
    exact ⟨rfl, rfl, span_Hull.call (⟨a0_0, a0_1⟩ : LSpan) (⟨a1_0, a1_1⟩ : LSpan)⟩
  · cases h⟩
def shape_Bounds.k (_ : Prims) (c54 : LSpan → LSpan → LSpan) (c54ok : LSpan → LSpan → Bool) (c61 : LSpan → LSpan → LSpan) (c62 : LSpan → LSpan → LSpan) (c62ok : LSpan → LSpan → Bool) (s : LShape) (k : LBox → R) : R :=
  cond ((s.kind : Int) == 1)
    (let x3 := c61 (c61 s.p.p0.p0 s.p.p1.p0) s.p.p2.p0
     cond ((s.kind : Int) == 1)
       (let x6 := c61 (c61 s.p.p0.p1 s.p.p1.p1) s.p.p2.p1
        cond ((s.kind : Int) == 1)
          (let x9 := c61 (c61 s.p.p0.p2 s.p.p1.p2) s.p.p2.p2
           k (⟨(⟨x3.lo, x6.lo, x9.lo⟩ : LTriple), (⟨x3.hi, x6.hi, x9.hi⟩ : LTriple)⟩ : LBox))
          (cond (c54ok s.p.p0.p2 s.r)
             (cond (c62ok s.p.p0.p2 s.r)
                (let x12 := c61 (c54 s.p.p0.p2 s.r) (c62 s.p.p0.p2 s.r)
                 k (⟨(⟨x3.lo, x6.lo, x12.lo⟩ : LTriple), (⟨x3.hi, x6.hi, x12.hi⟩ : LTriple)⟩ : LBox))
                (none))
             (none)))
       (cond (c54ok s.p.p0.p1 s.r)
          (cond (c62ok s.p.p0.p1 s.r)
             (let x15 := c61 (c54 s.p.p0.p1 s.r) (c62 s.p.p0.p1 s.r)
              cond ((s.kind : Int) == 1)
                (let x18 := c61 (c61 s.p.p0.p2 s.p.p1.p2) s.p.p2.p2
                 k (⟨(⟨x3.lo, x15.lo, x18.lo⟩ : LTriple), (⟨x3.hi, x15.hi, x18.hi⟩ : LTriple)⟩ : LBox))
                (cond (c54ok s.p.p0.p2 s.r)
                   (cond (c62ok s.p.p0.p2 s.r)
                      (let x21 := c61 (c54 s.p.p0.p2 s.r) (c62 s.p.p0.p2 s.r)
                       k (⟨(⟨x3.lo, x15.lo, x21.lo⟩ : LTriple), (⟨x3.hi, x15.hi, x21.hi⟩ : LTriple)⟩ : LBox))
                      (none))
                   (none)))
             (none))
          (none)))
    (cond (c54ok s.p.p0.p0 s.r)
       (cond (c62ok s.p.p0.p0 s.r)
          (let x24 := c61 (c54 s.p.p0.p0 s.r) (c62 s.p.p0.p0 s.r)
           cond ((s.kind : Int) == 1)
             (let x27 := c61 (c61 s.p.p0.p1 s.p.p1.p1) s.p.p2.p1
              cond ((s.kind : Int) == 1)
                (let x30 := c61 (c61 s.p.p0.p2 s.p.p1.p2) s.p.p2.p2
                 k (⟨(⟨x24.lo, x27.lo, x30.lo⟩ : LTriple), (⟨x24.hi, x27.hi, x30.hi⟩ : LTriple)⟩ : LBox))
                (cond (c54ok s.p.p0.p2 s.r)
                   (cond (c62ok s.p.p0.p2 s.r)
                      (let x33 := c61 (c54 s.p.p0.p2 s.r) (c62 s.p.p0.p2 s.r)
                       k (⟨(⟨x24.lo, x27.lo, x33.lo⟩ : LTriple), (⟨x24.hi, x27.hi, x33.hi⟩ : LTriple)⟩ : LBox))
                      (none))
                   (none)))
             (cond (c54ok s.p.p0.p1 s.r)
                (cond (c62ok s.p.p0.p1 s.r)
                   (let x36 := c61 (c54 s.p.p0.p1 s.r) (c62 s.p.p0.p1 s.r)
                    cond ((s.kind : Int) == 1)
                      (let x39 := c61 (c61 s.p.p0.p2 s.p.p1.p2) s.p.p2.p2
                       k (⟨(⟨x24.lo, x36.lo, x39.lo⟩ : LTriple), (⟨x24.hi, x36.hi, x39.hi⟩ : LTriple)⟩ : LBox))
                      (cond (c54ok s.p.p0.p2 s.r)
                         (cond (c62ok s.p.p0.p2 s.r)
                            (let x42 := c61 (c54 s.p.p0.p2 s.r) (c62 s.p.p0.p2 s.r)
                             k (⟨(⟨x24.lo, x36.lo, x42.lo⟩ : LTriple), (⟨x24.hi, x36.hi, x42.hi⟩ : LTriple)⟩ : LBox))
                            (none))
                         (none)))
                   (none))
                (none)))
          (none))
       (none))
def shape_Bounds (M : Prims) (s : LShape) : LBox :=
  cond ((s.kind : Int) == 1)
    (let x3 := span_Hull M (span_Hull M s.p.p0.p0 s.p.p1.p0) s.p.p2.p0
     cond ((s.kind : Int) == 1)
       (let x6 := span_Hull M (span_Hull M s.p.p0.p1 s.p.p1.p1) s.p.p2.p1
        cond ((s.kind : Int) == 1)
          (let x9 := span_Hull M (span_Hull M s.p.p0.p2 s.p.p1.p2) s.p.p2.p2
           (⟨(⟨x3.lo, x6.lo, x9.lo⟩ : LTriple), (⟨x3.hi, x6.hi, x9.hi⟩ : LTriple)⟩ : LBox))
          (let x12 := span_Hull M (span_Sub M s.p.p0.p2 s.r) (span_Add M s.p.p0.p2 s.r)
           (⟨(⟨x3.lo, x6.lo, x12.lo⟩ : LTriple), (⟨x3.hi, x6.hi, x12.hi⟩ : LTriple)⟩ : LBox)))
       (let x15 := span_Hull M (span_Sub M s.p.p0.p1 s.r) (span_Add M s.p.p0.p1 s.r)
        cond ((s.kind : Int) == 1)
          (let x18 := span_Hull M (span_Hull M s.p.p0.p2 s.p.p1.p2) s.p.p2.p2
           (⟨(⟨x3.lo, x15.lo, x18.lo⟩ : LTriple), (⟨x3.hi, x15.hi, x18.hi⟩ : LTriple)⟩ : LBox))
          (let x21 := span_Hull M (span_Sub M s.p.p0.p2 s.r) (span_Add M s.p.p0.p2 s.r)
           (⟨(⟨x3.lo, x15.lo, x21.lo⟩ : LTriple), (⟨x3.hi, x15.hi, x21.hi⟩ : LTriple)⟩ : LBox))))
    (let x24 := span_Hull M (span_Sub M s.p.p0.p0 s.r) (span_Add M s.p.p0.p0 s.r)
     cond ((s.kind : Int) == 1)
       (let x27 := span_Hull M (span_Hull M s.p.p0.p1 s.p.p1.p1) s.p.p2.p1
        cond ((s.kind : Int) == 1)
          (let x30 := span_Hull M (span_Hull M s.p.p0.p2 s.p.p1.p2) s.p.p2.p2
           (⟨(⟨x24.lo, x27.lo, x30.lo⟩ : LTriple), (⟨x24.hi, x27.hi, x30.hi⟩ : LTriple)⟩ : LBox))
          (let x33 := span_Hull M (span_Sub M s.p.p0.p2 s.r) (span_Add M s.p.p0.p2 s.r)
           (⟨(⟨x24.lo, x27.lo, x33.lo⟩ : LTriple), (⟨x24.hi, x27.hi, x33.hi⟩ : LTriple)⟩ : LBox)))
       (let x36 := span_Hull M (span_Sub M s.p.p0.p1 s.r) (span_Add M s.p.p0.p1 s.r)
        cond ((s.kind : Int) == 1)
          (let x39 := span_Hull M (span_Hull M s.p.p0.p2 s.p.p1.p2) s.p.p2.p2
           (⟨(⟨x24.lo, x36.lo, x39.lo⟩ : LTriple), (⟨x24.hi, x36.hi, x39.hi⟩ : LTriple)⟩ : LBox))
          (let x42 := span_Hull M (span_Sub M s.p.p0.p2 s.r) (span_Add M s.p.p0.p2 s.r)
           (⟨(⟨x24.lo, x36.lo, x42.lo⟩ : LTriple), (⟨x24.hi, x36.hi, x42.hi⟩ : LTriple)⟩ : LBox))))
def shape_Bounds.ok (M : Prims) (s : LShape) : Bool :=
  cond ((s.kind : Int) == 1)
    (cond ((s.kind : Int) == 1)
       (cond ((s.kind : Int) == 1)
          (true)
          (cond (span_Sub.ok M s.p.p0.p2 s.r)
             (cond (span_Add.ok M s.p.p0.p2 s.r)
                (true)
                (false))
             (false)))
       (cond (span_Sub.ok M s.p.p0.p1 s.r)
          (cond (span_Add.ok M s.p.p0.p1 s.r)
             (cond ((s.kind : Int) == 1)
                (true)
                (cond (span_Sub.ok M s.p.p0.p2 s.r)
                   (cond (span_Add.ok M s.p.p0.p2 s.r)
                      (true)
                      (false))
                   (false)))
             (false))
          (false)))
    (cond (span_Sub.ok M s.p.p0.p0 s.r)
       (cond (span_Add.ok M s.p.p0.p0 s.r)
          (cond ((s.kind : Int) == 1)
             (cond ((s.kind : Int) == 1)
                (true)
                (cond (span_Sub.ok M s.p.p0.p2 s.r)
                   (cond (span_Add.ok M s.p.p0.p2 s.r)
                      (true)
                      (false))
                   (false)))
             (cond (span_Sub.ok M s.p.p0.p1 s.r)
                (cond (span_Add.ok M s.p.p0.p1 s.r)
                   (cond ((s.kind : Int) == 1)
                      (true)
                      (cond (span_Sub.ok M s.p.p0.p2 s.r)
                         (cond (span_Add.ok M s.p.p0.p2 s.r)
                            (true)
                            (false))
                         (false)))
                   (false))
                (false)))
          (false))
       (false))
def shape_Bounds.fns (c54 : LSpan → LSpan → LSpan) (c54ok : LSpan → LSpan → Bool) (c61 : LSpan → LSpan → LSpan) (c62 : LSpan → LSpan → LSpan) (c62ok : LSpan → LSpan → Bool) : FuncId → List Value → Option (Bool × Value) := ifId 54 (span_Sub.ph c54 c54ok) <| ifId 61 (span_Hull.ph c61) <| ifId 62 (span_Add.ph c62 c62ok) <| noFns
theorem shape_Bounds.fnsOK : PureFns Tryz.prog (shape_Bounds.fns (span_Sub M0) (span_Sub.ok M0) (span_Hull M0) (span_Add M0) (span_Add.ok M0)) := ifIdOK span_Sub.phOK <| ifIdOK span_Hull.phOK <| ifIdOK span_Add.phOK <| noFnsOK
theorem shape_Bounds.ev (M : Prims) (c54 : LSpan → LSpan → LSpan) (c54ok : LSpan → LSpan → Bool) (c61 : LSpan → LSpan → LSpan) (c62 : LSpan → LSpan → LSpan) (c62ok : LSpan → LSpan → Bool)  (s : LShape) : evP tab M (shape_Bounds.fns c54 c54ok c61 c62 c62ok) noLoops 300 Tryz.f20 [s.val] = shape_Bounds.k M c54 c54ok c61 c62 c62ok  s (fun r => some (r.val, [])) := by kernel_rfl
theorem shape_Bounds.k_eq (M : Prims) (s : LShape) (k : LBox → R) : shape_Bounds.ok M s = true → shape_Bounds.k M (span_Sub M) (span_Sub.ok M) (span_Hull M) (span_Add M) (span_Add.ok M) s k = k (shape_Bounds M s) := by
  unfold shape_Bounds.ok shape_Bounds.k shape_Bounds
  exact kC (kC (kC (fun _ => rfl) (kL (kL (fun _ => rfl)))) (kL (kL (kC (fun _ => rfl) (kL (kL (fun _ => rfl))))))) (kL (kL (kC (kC (fun _ => rfl) (kL (kL (fun _ => rfl)))) (kL (kL (kC (fun _ => rfl) (kL (kL (fun _ => rfl)))))))))
theorem shape_Bounds.call (s : LShape) (h : shape_Bounds.ok M0 s = true) : PureOK Tryz.prog 20 [s.val] ((shape_Bounds M0 s).val) :=
  evP_sound (P := Tryz.prog) mixed tabOK shape_Bounds.fnsOK Tryz.func20 rfl (Λ := noLoops) (c := Tryz.f20.body.getD .skip) rfl (noLoopsOK _) rfl (Nat.zero_le 1) rfl rfl ((shape_Bounds.ev M0 (span_Sub M0) (span_Sub.ok M0) (span_Hull M0) (span_Add M0) (span_Add.ok M0) s).trans (shape_Bounds.k_eq M0 s _ h))
def shape_Bounds.ph (c20 : LShape → LBox) (c20ok : LShape → Bool) : Ph := fun args => match args with
  | [.agg ⟨[.int .i64 a0_0, .float .f64 a0_1, .float .f64 a0_2, .float .f64 a0_3, .float .f64 a0_4, .float .f64 a0_5, .float .f64 a0_6, .float .f64 a0_7, .float .f64 a0_8, .float .f64 a0_9, .float .f64 a0_10, .float .f64 a0_11, .float .f64 a0_12, .float .f64 a0_13, .float .f64 a0_14, .float .f64 a0_15, .float .f64 a0_16, .float .f64 a0_17, .float .f64 a0_18, .float .f64 a0_19, .float .f64 a0_20]⟩] => some (c20ok (⟨a0_0, ⟨⟨⟨a0_1, a0_2⟩, ⟨a0_3, a0_4⟩, ⟨a0_5, a0_6⟩⟩, ⟨⟨a0_7, a0_8⟩, ⟨a0_9, a0_10⟩, ⟨a0_11, a0_12⟩⟩, ⟨⟨a0_13, a0_14⟩, ⟨a0_15, a0_16⟩, ⟨a0_17, a0_18⟩⟩⟩, ⟨a0_19, a0_20⟩⟩ : LShape), (c20 (⟨a0_0, ⟨⟨⟨a0_1, a0_2⟩, ⟨a0_3, a0_4⟩, ⟨a0_5, a0_6⟩⟩, ⟨⟨a0_7, a0_8⟩, ⟨a0_9, a0_10⟩, ⟨a0_11, a0_12⟩⟩, ⟨⟨a0_13, a0_14⟩, ⟨a0_15, a0_16⟩, ⟨a0_17, a0_18⟩⟩⟩, ⟨a0_19, a0_20⟩⟩ : LShape)).val)
  | _ => none
theorem shape_Bounds.phOK : PhOK Tryz.prog 20 (shape_Bounds.ph (shape_Bounds M0) (shape_Bounds.ok M0)) := ⟨by
  intro args v h
  unfold shape_Bounds.ph at h
  split at h
  · rename_i a0_0 a0_1 a0_2 a0_3 a0_4 a0_5 a0_6 a0_7 a0_8 a0_9 a0_10 a0_11 a0_12 a0_13 a0_14 a0_15 a0_16 a0_17 a0_18 a0_19 a0_20
    simp only [Option.some.injEq, Prod.mk.injEq] at h
    obtain ⟨hok, rfl⟩ := h
    exact ⟨rfl, rfl, shape_Bounds.call (⟨a0_0, ⟨⟨⟨a0_1, a0_2⟩, ⟨a0_3, a0_4⟩, ⟨a0_5, a0_6⟩⟩, ⟨⟨a0_7, a0_8⟩, ⟨a0_9, a0_10⟩, ⟨a0_11, a0_12⟩⟩, ⟨⟨a0_13, a0_14⟩, ⟨a0_15, a0_16⟩, ⟨a0_17, a0_18⟩⟩⟩, ⟨a0_19, a0_20⟩⟩ : LShape) hok⟩
  · cases h⟩
def lanternref02_Least.k (M : Prims) (x : Nat) (y : Nat) (k : Nat → R) : R :=
  cond (M.lt x y)
    (k x)
    (k y)
def lanternref02_Least (M : Prims) (x : Nat) (y : Nat) : Nat :=
  cond (M.lt x y)
    (x)
    (y)
def lanternref02_Least.fns : FuncId → List Value → Option (Bool × Value) := noFns
theorem lanternref02_Least.fnsOK : PureFns Tryz.prog lanternref02_Least.fns := noFnsOK
theorem lanternref02_Least.ev (M : Prims)   (x : Nat) (y : Nat) : evP tab M lanternref02_Least.fns noLoops 300 Tryz.f112 [(.float .f64 x), (.float .f64 y)] = lanternref02_Least.k M   x y (fun r => some ((.float .f64 r), [])) := by kernel_rfl
theorem lanternref02_Least.k_eq (M : Prims) (x : Nat) (y : Nat) (k : Nat → R) : lanternref02_Least.k M  x y k = k (lanternref02_Least M x y) := by
  unfold lanternref02_Least.k lanternref02_Least
  exact pC rfl rfl
theorem lanternref02_Least.call (x : Nat) (y : Nat) : PureOK Tryz.prog 112 [(.float .f64 x), (.float .f64 y)] (.float .f64 (lanternref02_Least M0 x y)) :=
  evP_sound (P := Tryz.prog) mixed tabOK lanternref02_Least.fnsOK Tryz.func112 rfl (Λ := noLoops) (c := Tryz.f112.body.getD .skip) rfl (noLoopsOK _) rfl (Nat.zero_le 1) rfl rfl ((lanternref02_Least.ev M0  x y).trans (lanternref02_Least.k_eq M0 x y _))
def lanternref02_Least.ph (c112 : Nat → Nat → Nat) : Ph := fun args => match args with
  | [.float .f64 a0_, .float .f64 a1_] => some (true, (.float .f64 (c112 a0_ a1_)))
  | _ => none
theorem lanternref02_Least.phOK : PhOK Tryz.prog 112 (lanternref02_Least.ph (lanternref02_Least M0)) := ⟨by
  intro args v h
  unfold lanternref02_Least.ph at h
  split at h
  · rename_i a0_ a1_
    simp only [Option.some.injEq, Prod.mk.injEq, true_and] at h
    subst h
    exact ⟨rfl, rfl, lanternref02_Least.call a0_ a1_⟩
  · cases h⟩
def lanternref02_Greatest.k (M : Prims) (x : Nat) (y : Nat) (k : Nat → R) : R :=
  cond (M.gt x y)
    (k x)
    (k y)
def lanternref02_Greatest (M : Prims) (x : Nat) (y : Nat) : Nat :=
  cond (M.gt x y)
    (x)
    (y)
def lanternref02_Greatest.fns : FuncId → List Value → Option (Bool × Value) := noFns
theorem lanternref02_Greatest.fnsOK : PureFns Tryz.prog lanternref02_Greatest.fns := noFnsOK
theorem lanternref02_Greatest.ev (M : Prims)   (x : Nat) (y : Nat) : evP tab M lanternref02_Greatest.fns noLoops 300 Tryz.f113 [(.float .f64 x), (.float .f64 y)] = lanternref02_Greatest.k M   x y (fun r => some ((.float .f64 r), [])) := by kernel_rfl
theorem lanternref02_Greatest.k_eq (M : Prims) (x : Nat) (y : Nat) (k : Nat → R) : lanternref02_Greatest.k M  x y k = k (lanternref02_Greatest M x y) := by
  unfold lanternref02_Greatest.k lanternref02_Greatest
  exact pC rfl rfl
theorem lanternref02_Greatest.call (x : Nat) (y : Nat) : PureOK Tryz.prog 113 [(.float .f64 x), (.float .f64 y)] (.float .f64 (lanternref02_Greatest M0 x y)) :=
  evP_sound (P := Tryz.prog) mixed tabOK lanternref02_Greatest.fnsOK Tryz.func113 rfl (Λ := noLoops) (c := Tryz.f113.body.getD .skip) rfl (noLoopsOK _) rfl (Nat.zero_le 1) rfl rfl ((lanternref02_Greatest.ev M0  x y).trans (lanternref02_Greatest.k_eq M0 x y _))
def lanternref02_Greatest.ph (c113 : Nat → Nat → Nat) : Ph := fun args => match args with
  | [.float .f64 a0_, .float .f64 a1_] => some (true, (.float .f64 (c113 a0_ a1_)))
  | _ => none
theorem lanternref02_Greatest.phOK : PhOK Tryz.prog 113 (lanternref02_Greatest.ph (lanternref02_Greatest M0)) := ⟨by
  intro args v h
  unfold lanternref02_Greatest.ph at h
  split at h
  · rename_i a0_ a1_
    simp only [Option.some.injEq, Prod.mk.injEq, true_and] at h
    subst h
    exact ⟨rfl, rfl, lanternref02_Greatest.call a0_ a1_⟩
  · cases h⟩
end Go.Lan

namespace Go.Lan
open Go.Proofs
def lanternref02_Hull.k (_ : Prims) (c112 : Nat → Nat → Nat) (c113 : Nat → Nat → Nat) (a : LSpan) (b : LSpan) (k : LSpan → R) : R :=
  k (⟨(c112 a.lo b.lo), (c113 a.hi b.hi)⟩ : LSpan)
def lanternref02_Hull (M : Prims) (a : LSpan) (b : LSpan) : LSpan :=
  (⟨(lanternref02_Least M a.lo b.lo), (lanternref02_Greatest M a.hi b.hi)⟩ : LSpan)
def lanternref02_Hull.fns (c112 : Nat → Nat → Nat) (c113 : Nat → Nat → Nat) : FuncId → List Value → Option (Bool × Value) := ifId 112 (lanternref02_Least.ph c112) <| ifId 113 (lanternref02_Greatest.ph c113) <| noFns
theorem lanternref02_Hull.fnsOK : PureFns Tryz.prog (lanternref02_Hull.fns (lanternref02_Least M0) (lanternref02_Greatest M0)) := ifIdOK lanternref02_Least.phOK <| ifIdOK lanternref02_Greatest.phOK <| noFnsOK
theorem lanternref02_Hull.ev (M : Prims) (c112 : Nat → Nat → Nat) (c113 : Nat → Nat → Nat)  (a : LSpan) (b : LSpan) : evP tab M (lanternref02_Hull.fns c112 c113) noLoops 300 Tryz.f63 [a.val, b.val] = lanternref02_Hull.k M c112 c113  a b (fun r => some (r.val, [])) := by kernel_rfl
theorem lanternref02_Hull.k_eq (M : Prims) (a : LSpan) (b : LSpan) (k : LSpan → R) : lanternref02_Hull.k M (lanternref02_Least M) (lanternref02_Greatest M) a b k = k (lanternref02_Hull M a b) := by
  unfold lanternref02_Hull.k lanternref02_Hull
  exact rfl
theorem lanternref02_Hull.call (a : LSpan) (b : LSpan) : PureOK Tryz.prog 63 [a.val, b.val] ((lanternref02_Hull M0 a b).val) :=
  evP_sound (P := Tryz.prog) mixed tabOK lanternref02_Hull.fnsOK Tryz.func63 rfl (Λ := noLoops) (c := Tryz.f63.body.getD .skip) rfl (noLoopsOK _) rfl (Nat.zero_le 1) rfl rfl ((lanternref02_Hull.ev M0 (lanternref02_Least M0) (lanternref02_Greatest M0) a b).trans (lanternref02_Hull.k_eq M0 a b _))
def lanternref02_Hull.ph (c63 : LSpan → LSpan → LSpan) : Ph := fun args => match args with
  | [.agg ⟨[.float .f64 a0_0, .float .f64 a0_1]⟩, .agg ⟨[.float .f64 a1_0, .float .f64 a1_1]⟩] => some (true, (c63 (⟨a0_0, a0_1⟩ : LSpan) (⟨a1_0, a1_1⟩ : LSpan)).val)
  | _ => none
theorem lanternref02_Hull.phOK : PhOK Tryz.prog 63 (lanternref02_Hull.ph (lanternref02_Hull M0)) := ⟨by
  intro args v h
  unfold lanternref02_Hull.ph at h
  split at h
  · rename_i a0_0 a0_1 a1_0 a1_1
    simp only [Option.some.injEq, Prod.mk.injEq, true_and] at h
    subst h
    exact ⟨rfl, rfl, lanternref02_Hull.call (⟨a0_0, a0_1⟩ : LSpan) (⟨a1_0, a1_1⟩ : LSpan)⟩
  · cases h⟩
def lanternref10_Bounds.k (_ : Prims) (c58 : LSpan → LSpan → LSpan) (c58ok : LSpan → LSpan → Bool) (c63 : LSpan → LSpan → LSpan) (c64 : LSpan → LSpan → LSpan) (c64ok : LSpan → LSpan → Bool) (s : LShape) (k : LBox → R) : R :=
  cond (c58ok s.p.p0.p0 s.r)
    (cond (c64ok s.p.p0.p0 s.r)
       (let x3 := c63 (c58 s.p.p0.p0 s.r) (c64 s.p.p0.p0 s.r)
        cond ((s.kind : Int) == 1)
          (let x6 := c63 s.p.p0.p0 (c63 s.p.p1.p0 s.p.p2.p0)
           cond (c58ok s.p.p0.p1 s.r)
             (cond (c64ok s.p.p0.p1 s.r)
                (let x9 := c63 (c58 s.p.p0.p1 s.r) (c64 s.p.p0.p1 s.r)
                 cond ((s.kind : Int) == 1)
                   (let x12 := c63 s.p.p0.p1 (c63 s.p.p1.p1 s.p.p2.p1)
                    cond (c58ok s.p.p0.p2 s.r)
                      (cond (c64ok s.p.p0.p2 s.r)
                         (let x15 := c63 (c58 s.p.p0.p2 s.r) (c64 s.p.p0.p2 s.r)
                          cond ((s.kind : Int) == 1)
                            (let x18 := c63 s.p.p0.p2 (c63 s.p.p1.p2 s.p.p2.p2)
                             k (⟨(⟨x6.lo, x12.lo, x18.lo⟩ : LTriple), (⟨x6.hi, x12.hi, x18.hi⟩ : LTriple)⟩ : LBox))
                            (k (⟨(⟨x6.lo, x12.lo, x15.lo⟩ : LTriple), (⟨x6.hi, x12.hi, x15.hi⟩ : LTriple)⟩ : LBox)))
                         (none))
                      (none))
                   (cond (c58ok s.p.p0.p2 s.r)
                      (cond (c64ok s.p.p0.p2 s.r)
                         (let x21 := c63 (c58 s.p.p0.p2 s.r) (c64 s.p.p0.p2 s.r)
                          cond ((s.kind : Int) == 1)
                            (let x24 := c63 s.p.p0.p2 (c63 s.p.p1.p2 s.p.p2.p2)
                             k (⟨(⟨x6.lo, x9.lo, x24.lo⟩ : LTriple), (⟨x6.hi, x9.hi, x24.hi⟩ : LTriple)⟩ : LBox))
                            (k (⟨(⟨x6.lo, x9.lo, x21.lo⟩ : LTriple), (⟨x6.hi, x9.hi, x21.hi⟩ : LTriple)⟩ : LBox)))
                         (none))
                      (none)))
                (none))
             (none))
          (cond (c58ok s.p.p0.p1 s.r)
             (cond (c64ok s.p.p0.p1 s.r)
                (let x27 := c63 (c58 s.p.p0.p1 s.r) (c64 s.p.p0.p1 s.r)
                 cond ((s.kind : Int) == 1)
                   (let x30 := c63 s.p.p0.p1 (c63 s.p.p1.p1 s.p.p2.p1)
                    cond (c58ok s.p.p0.p2 s.r)
                      (cond (c64ok s.p.p0.p2 s.r)
                         (let x33 := c63 (c58 s.p.p0.p2 s.r) (c64 s.p.p0.p2 s.r)
                          cond ((s.kind : Int) == 1)
                            (let x36 := c63 s.p.p0.p2 (c63 s.p.p1.p2 s.p.p2.p2)
                             k (⟨(⟨x3.lo, x30.lo, x36.lo⟩ : LTriple), (⟨x3.hi, x30.hi, x36.hi⟩ : LTriple)⟩ : LBox))
                            (k (⟨(⟨x3.lo, x30.lo, x33.lo⟩ : LTriple), (⟨x3.hi, x30.hi, x33.hi⟩ : LTriple)⟩ : LBox)))
                         (none))
                      (none))
                   (cond (c58ok s.p.p0.p2 s.r)
                      (cond (c64ok s.p.p0.p2 s.r)
                         (let x39 := c63 (c58 s.p.p0.p2 s.r) (c64 s.p.p0.p2 s.r)
                          cond ((s.kind : Int) == 1)
                            (let x42 := c63 s.p.p0.p2 (c63 s.p.p1.p2 s.p.p2.p2)
                             k (⟨(⟨x3.lo, x27.lo, x42.lo⟩ : LTriple), (⟨x3.hi, x27.hi, x42.hi⟩ : LTriple)⟩ : LBox))
                            (k (⟨(⟨x3.lo, x27.lo, x39.lo⟩ : LTriple), (⟨x3.hi, x27.hi, x39.hi⟩ : LTriple)⟩ : LBox)))
                         (none))
                      (none)))
                (none))
             (none)))
       (none))
    (none)
def lanternref10_Bounds (M : Prims) (s : LShape) : LBox :=
  let x3 := lanternref02_Hull M (lanternref02_Sub M s.p.p0.p0 s.r) (lanternref02_Add M s.p.p0.p0 s.r)
  cond ((s.kind : Int) == 1)
    (let x6 := lanternref02_Hull M s.p.p0.p0 (lanternref02_Hull M s.p.p1.p0 s.p.p2.p0)
     let x9 := lanternref02_Hull M (lanternref02_Sub M s.p.p0.p1 s.r) (lanternref02_Add M s.p.p0.p1 s.r)
     cond ((s.kind : Int) == 1)
       (let x12 := lanternref02_Hull M s.p.p0.p1 (lanternref02_Hull M s.p.p1.p1 s.p.p2.p1)
        let x15 := lanternref02_Hull M (lanternref02_Sub M s.p.p0.p2 s.r) (lanternref02_Add M s.p.p0.p2 s.r)
        cond ((s.kind : Int) == 1)
          (let x18 := lanternref02_Hull M s.p.p0.p2 (lanternref02_Hull M s.p.p1.p2 s.p.p2.p2)
           (⟨(⟨x6.lo, x12.lo, x18.lo⟩ : LTriple), (⟨x6.hi, x12.hi, x18.hi⟩ : LTriple)⟩ : LBox))
          ((⟨(⟨x6.lo, x12.lo, x15.lo⟩ : LTriple), (⟨x6.hi, x12.hi, x15.hi⟩ : LTriple)⟩ : LBox)))
       (let x21 := lanternref02_Hull M (lanternref02_Sub M s.p.p0.p2 s.r) (lanternref02_Add M s.p.p0.p2 s.r)
        cond ((s.kind : Int) == 1)
          (let x24 := lanternref02_Hull M s.p.p0.p2 (lanternref02_Hull M s.p.p1.p2 s.p.p2.p2)
           (⟨(⟨x6.lo, x9.lo, x24.lo⟩ : LTriple), (⟨x6.hi, x9.hi, x24.hi⟩ : LTriple)⟩ : LBox))
          ((⟨(⟨x6.lo, x9.lo, x21.lo⟩ : LTriple), (⟨x6.hi, x9.hi, x21.hi⟩ : LTriple)⟩ : LBox))))
    (let x27 := lanternref02_Hull M (lanternref02_Sub M s.p.p0.p1 s.r) (lanternref02_Add M s.p.p0.p1 s.r)
     cond ((s.kind : Int) == 1)
       (let x30 := lanternref02_Hull M s.p.p0.p1 (lanternref02_Hull M s.p.p1.p1 s.p.p2.p1)
        let x33 := lanternref02_Hull M (lanternref02_Sub M s.p.p0.p2 s.r) (lanternref02_Add M s.p.p0.p2 s.r)
        cond ((s.kind : Int) == 1)
          (let x36 := lanternref02_Hull M s.p.p0.p2 (lanternref02_Hull M s.p.p1.p2 s.p.p2.p2)
           (⟨(⟨x3.lo, x30.lo, x36.lo⟩ : LTriple), (⟨x3.hi, x30.hi, x36.hi⟩ : LTriple)⟩ : LBox))
          ((⟨(⟨x3.lo, x30.lo, x33.lo⟩ : LTriple), (⟨x3.hi, x30.hi, x33.hi⟩ : LTriple)⟩ : LBox)))
       (let x39 := lanternref02_Hull M (lanternref02_Sub M s.p.p0.p2 s.r) (lanternref02_Add M s.p.p0.p2 s.r)
        cond ((s.kind : Int) == 1)
          (let x42 := lanternref02_Hull M s.p.p0.p2 (lanternref02_Hull M s.p.p1.p2 s.p.p2.p2)
           (⟨(⟨x3.lo, x27.lo, x42.lo⟩ : LTriple), (⟨x3.hi, x27.hi, x42.hi⟩ : LTriple)⟩ : LBox))
          ((⟨(⟨x3.lo, x27.lo, x39.lo⟩ : LTriple), (⟨x3.hi, x27.hi, x39.hi⟩ : LTriple)⟩ : LBox))))
def lanternref10_Bounds.ok (M : Prims) (s : LShape) : Bool :=
  cond (lanternref02_Sub.ok M s.p.p0.p0 s.r)
    (cond (lanternref02_Add.ok M s.p.p0.p0 s.r)
       (cond ((s.kind : Int) == 1)
          (cond (lanternref02_Sub.ok M s.p.p0.p1 s.r)
             (cond (lanternref02_Add.ok M s.p.p0.p1 s.r)
                (cond ((s.kind : Int) == 1)
                   (cond (lanternref02_Sub.ok M s.p.p0.p2 s.r)
                      (cond (lanternref02_Add.ok M s.p.p0.p2 s.r)
                         (true)
                         (false))
                      (false))
                   (cond (lanternref02_Sub.ok M s.p.p0.p2 s.r)
                      (cond (lanternref02_Add.ok M s.p.p0.p2 s.r)
                         (true)
                         (false))
                      (false)))
                (false))
             (false))
          (cond (lanternref02_Sub.ok M s.p.p0.p1 s.r)
             (cond (lanternref02_Add.ok M s.p.p0.p1 s.r)
                (cond ((s.kind : Int) == 1)
                   (cond (lanternref02_Sub.ok M s.p.p0.p2 s.r)
                      (cond (lanternref02_Add.ok M s.p.p0.p2 s.r)
                         (true)
                         (false))
                      (false))
                   (cond (lanternref02_Sub.ok M s.p.p0.p2 s.r)
                      (cond (lanternref02_Add.ok M s.p.p0.p2 s.r)
                         (true)
                         (false))
                      (false)))
                (false))
             (false)))
       (false))
    (false)
def lanternref10_Bounds.fns (c58 : LSpan → LSpan → LSpan) (c58ok : LSpan → LSpan → Bool) (c63 : LSpan → LSpan → LSpan) (c64 : LSpan → LSpan → LSpan) (c64ok : LSpan → LSpan → Bool) : FuncId → List Value → Option (Bool × Value) := ifId 58 (lanternref02_Sub.ph c58 c58ok) <| ifId 63 (lanternref02_Hull.ph c63) <| ifId 64 (lanternref02_Add.ph c64 c64ok) <| noFns
theorem lanternref10_Bounds.fnsOK : PureFns Tryz.prog (lanternref10_Bounds.fns (lanternref02_Sub M0) (lanternref02_Sub.ok M0) (lanternref02_Hull M0) (lanternref02_Add M0) (lanternref02_Add.ok M0)) := ifIdOK lanternref02_Sub.phOK <| ifIdOK lanternref02_Hull.phOK <| ifIdOK lanternref02_Add.phOK <| noFnsOK
theorem lanternref10_Bounds.ev (M : Prims) (c58 : LSpan → LSpan → LSpan) (c58ok : LSpan → LSpan → Bool) (c63 : LSpan → LSpan → LSpan) (c64 : LSpan → LSpan → LSpan) (c64ok : LSpan → LSpan → Bool)  (s : LShape) : evP tab M (lanternref10_Bounds.fns c58 c58ok c63 c64 c64ok) noLoops 300 Tryz.f21 [s.val] = lanternref10_Bounds.k M c58 c58ok c63 c64 c64ok  s (fun r => some (r.val, [])) := by kernel_rfl
theorem lanternref10_Bounds.k_eq (M : Prims) (s : LShape) (k : LBox → R) : lanternref10_Bounds.ok M s = true → lanternref10_Bounds.k M (lanternref02_Sub M) (lanternref02_Sub.ok M) (lanternref02_Hull M) (lanternref02_Add M) (lanternref02_Add.ok M) s k = k (lanternref10_Bounds M s) := by
  unfold lanternref10_Bounds.ok lanternref10_Bounds.k lanternref10_Bounds
  exact kL (kL (kC (kL (kL (kC (kL (kL (fun _ => pC rfl rfl))) (kL (kL (fun _ => pC rfl rfl)))))) (kL (kL (kC (kL (kL (fun _ => pC rfl rfl))) (kL (kL (fun _ => pC rfl rfl))))))))
theorem lanternref10_Bounds.call (s : LShape) (h : lanternref10_Bounds.ok M0 s = true) : PureOK Tryz.prog 21 [s.val] ((lanternref10_Bounds M0 s).val) :=
  evP_sound (P := Tryz.prog) mixed tabOK lanternref10_Bounds.fnsOK Tryz.func21 rfl (Λ := noLoops) (c := Tryz.f21.body.getD .skip) rfl (noLoopsOK _) rfl (Nat.zero_le 1) rfl rfl ((lanternref10_Bounds.ev M0 (lanternref02_Sub M0) (lanternref02_Sub.ok M0) (lanternref02_Hull M0) (lanternref02_Add M0) (lanternref02_Add.ok M0) s).trans (lanternref10_Bounds.k_eq M0 s _ h))
def lanternref10_Bounds.ph (c21 : LShape → LBox) (c21ok : LShape → Bool) : Ph := fun args => match args with
  | [.agg ⟨[.int .i64 a0_0, .float .f64 a0_1, .float .f64 a0_2, .float .f64 a0_3, .float .f64 a0_4, .float .f64 a0_5, .float .f64 a0_6, .float .f64 a0_7, .float .f64 a0_8, .float .f64 a0_9, .float .f64 a0_10, .float .f64 a0_11, .float .f64 a0_12, .float .f64 a0_13, .float .f64 a0_14, .float .f64 a0_15, .float .f64 a0_16, .float .f64 a0_17, .float .f64 a0_18, .float .f64 a0_19, .float .f64 a0_20]⟩] => some (c21ok (⟨a0_0, ⟨⟨⟨a0_1, a0_2⟩, ⟨a0_3, a0_4⟩, ⟨a0_5, a0_6⟩⟩, ⟨⟨a0_7, a0_8⟩, ⟨a0_9, a0_10⟩, ⟨a0_11, a0_12⟩⟩, ⟨⟨a0_13, a0_14⟩, ⟨a0_15, a0_16⟩, ⟨a0_17, a0_18⟩⟩⟩, ⟨a0_19, a0_20⟩⟩ : LShape), (c21 (⟨a0_0, ⟨⟨⟨a0_1, a0_2⟩, ⟨a0_3, a0_4⟩, ⟨a0_5, a0_6⟩⟩, ⟨⟨a0_7, a0_8⟩, ⟨a0_9, a0_10⟩, ⟨a0_11, a0_12⟩⟩, ⟨⟨a0_13, a0_14⟩, ⟨a0_15, a0_16⟩, ⟨a0_17, a0_18⟩⟩⟩, ⟨a0_19, a0_20⟩⟩ : LShape)).val)
  | _ => none
theorem lanternref10_Bounds.phOK : PhOK Tryz.prog 21 (lanternref10_Bounds.ph (lanternref10_Bounds M0) (lanternref10_Bounds.ok M0)) := ⟨by
  intro args v h
  unfold lanternref10_Bounds.ph at h
  split at h
  · rename_i a0_0 a0_1 a0_2 a0_3 a0_4 a0_5 a0_6 a0_7 a0_8 a0_9 a0_10 a0_11 a0_12 a0_13 a0_14 a0_15 a0_16 a0_17 a0_18 a0_19 a0_20
    simp only [Option.some.injEq, Prod.mk.injEq] at h
    obtain ⟨hok, rfl⟩ := h
    exact ⟨rfl, rfl, lanternref10_Bounds.call (⟨a0_0, ⟨⟨⟨a0_1, a0_2⟩, ⟨a0_3, a0_4⟩, ⟨a0_5, a0_6⟩⟩, ⟨⟨a0_7, a0_8⟩, ⟨a0_9, a0_10⟩, ⟨a0_11, a0_12⟩⟩, ⟨⟨a0_13, a0_14⟩, ⟨a0_15, a0_16⟩, ⟨a0_17, a0_18⟩⟩⟩, ⟨a0_19, a0_20⟩⟩ : LShape) hok⟩
  · cases h⟩
def lanternlaw10_ShapeTells.k (M : Prims) (c10 : LShape → Bool) (c10ok : LShape → Bool) (c11 : LV3 → Bool) (c11ok : LV3 → Bool) (c12 : LV3 → LV3 → Bool) (c12ok : LV3 → LV3 → Bool) (c13 : LShape → LV3 → LV3) (c13ok : LShape → LV3 → Bool) (c14 : LShape → LV3 → LV3) (c14ok : LShape → LV3 → Bool) (c15 : LSpan → LSpan → Bool) (c15ok : LSpan → LSpan → Bool) (c16 : LShape → LSpan) (c16ok : LShape → Bool) (c17 : LShape → LSpan) (c17ok : LShape → Bool) (c18 : LShape → Nat → Nat → LV3) (c18ok : LShape → Nat → Nat → Bool) (c19 : LShape → Nat → Nat → LV3) (c19ok : LShape → Nat → Nat → Bool) (c20 : LShape → LBox) (c20ok : LShape → Bool) (c21 : LShape → LBox) (c21ok : LShape → Bool) (c9 : Bool) (c9ok : Bool) (s : LShape) (p : LV3) (u : Nat) (v : Nat) (k : Bool → R) : R :=
  cond c9ok
    (cond (!c9)
       (k false)
       (cond (c10ok s)
          (cond (!(c10 s))
             (k true)
             (cond (c11ok p)
                (cond (!(c11 p))
                   (k true)
                   (let x6 := c13 s p
                    cond (c13ok s p)
                      (let x7 := c14 s p
                       cond (c14ok s p)
                         (cond (c12ok x6 x7)
                            (cond (c12 x6 x7)
                               (let x9 := c16 s
                                cond (c16ok s)
                                  (let x10 := c17 s
                                   cond (c17ok s)
                                     (cond (c15ok x9 x10)
                                        (cond (c15 x9 x10)
                                           (let x12 := c18 s u v
                                            cond (c18ok s u v)
                                              (let x13 := c19 s u v
                                               cond (c19ok s u v)
                                                 (cond (c12ok x12 x13)
                                                    (cond (c12 x12 x13)
                                                       (let x15 := c20 s
                                                        cond (c20ok s)
                                                          (let x16 := c21 s
                                                           cond (c21ok s)
                                                             (k ((M.eq x15.lo.p0 x16.lo.p0 && (M.eq x15.lo.p1 x16.lo.p1 && (M.eq x15.lo.p2 x16.lo.p2 && true))) && ((M.eq x15.hi.p0 x16.hi.p0 && (M.eq x15.hi.p1 x16.hi.p1 && (M.eq x15.hi.p2 x16.hi.p2 && true))) && true)))
                                                             (none))
                                                          (none))
                                                       (k false))
                                                    (none))
                                                 (none))
                                              (none))
                                           (k false))
                                        (none))
                                     (none))
                                  (none))
                               (k false))
                            (none))
                         (none))
                      (none)))
                (none)))
          (none)))
    (none)
def lanternlaw10_ShapeTells (M : Prims) (s : LShape) (p : LV3) (u : Nat) (v : Nat) : Bool :=
  cond (!(lanternlaw10_Awake M))
    (false)
    (cond (!(lanternref10_Valid M s))
       (true)
       (cond (!(lanternref03_Valid M p))
          (true)
          (cond (lanternref03_Same M (shape_Normal M s p) (lanternref10_Normal M s p))
             (cond (lanternref02_Same M (shape_Area M s) (lanternref10_Area M s))
                (cond (lanternref03_Same M (shape_Spread M s u v) (lanternref10_Spread M s u v))
                   (let x15 := shape_Bounds M s
                    let x16 := lanternref10_Bounds M s
                    ((M.eq x15.lo.p0 x16.lo.p0 && (M.eq x15.lo.p1 x16.lo.p1 && (M.eq x15.lo.p2 x16.lo.p2 && true))) && ((M.eq x15.hi.p0 x16.hi.p0 && (M.eq x15.hi.p1 x16.hi.p1 && (M.eq x15.hi.p2 x16.hi.p2 && true))) && true)))
                   (false))
                (false))
             (false))))
def lanternlaw10_ShapeTells.ok (M : Prims) (s : LShape) (p : LV3) (u : Nat) (v : Nat) : Bool :=
  cond (lanternlaw10_Awake.ok M)
    (cond (!(lanternlaw10_Awake M))
       (true)
       (cond (lanternref10_Valid.ok M s)
          (cond (!(lanternref10_Valid M s))
             (true)
             (cond (lanternref03_Valid.ok M p)
                (cond (!(lanternref03_Valid M p))
                   (true)
                   (let x6 := shape_Normal M s p
                    cond (shape_Normal.ok M s p)
                      (let x7 := lanternref10_Normal M s p
                       cond (lanternref10_Normal.ok M s p)
                         (cond (lanternref03_Same.ok M x6 x7)
                            (cond (lanternref03_Same M x6 x7)
                               (let x9 := shape_Area M s
                                cond (shape_Area.ok M s)
                                  (let x10 := lanternref10_Area M s
                                   cond (lanternref10_Area.ok M s)
                                     (cond (lanternref02_Same.ok M x9 x10)
                                        (cond (lanternref02_Same M x9 x10)
                                           (let x12 := shape_Spread M s u v
                                            cond (shape_Spread.ok M s u v)
                                              (let x13 := lanternref10_Spread M s u v
                                               cond (lanternref10_Spread.ok M s u v)
                                                 (cond (lanternref03_Same.ok M x12 x13)
                                                    (cond (lanternref03_Same M x12 x13)
                                                       (cond (shape_Bounds.ok M s)
                                                          (cond (lanternref10_Bounds.ok M s)
                                                             (true)
                                                             (false))
                                                          (false))
                                                       (true))
                                                    (false))
                                                 (false))
                                              (false))
                                           (true))
                                        (false))
                                     (false))
                                  (false))
                               (true))
                            (false))
                         (false))
                      (false)))
                (false)))
          (false)))
    (false)
def lanternlaw10_ShapeTells.fns (c10 : LShape → Bool) (c10ok : LShape → Bool) (c11 : LV3 → Bool) (c11ok : LV3 → Bool) (c12 : LV3 → LV3 → Bool) (c12ok : LV3 → LV3 → Bool) (c13 : LShape → LV3 → LV3) (c13ok : LShape → LV3 → Bool) (c14 : LShape → LV3 → LV3) (c14ok : LShape → LV3 → Bool) (c15 : LSpan → LSpan → Bool) (c15ok : LSpan → LSpan → Bool) (c16 : LShape → LSpan) (c16ok : LShape → Bool) (c17 : LShape → LSpan) (c17ok : LShape → Bool) (c18 : LShape → Nat → Nat → LV3) (c18ok : LShape → Nat → Nat → Bool) (c19 : LShape → Nat → Nat → LV3) (c19ok : LShape → Nat → Nat → Bool) (c20 : LShape → LBox) (c20ok : LShape → Bool) (c21 : LShape → LBox) (c21ok : LShape → Bool) (c9 : Bool) (c9ok : Bool) : FuncId → List Value → Option (Bool × Value) := ifId 10 (lanternref10_Valid.ph c10 c10ok) <| ifId 11 (lanternref03_Valid.ph c11 c11ok) <| ifId 12 (lanternref03_Same.ph c12 c12ok) <| ifId 13 (shape_Normal.ph c13 c13ok) <| ifId 14 (lanternref10_Normal.ph c14 c14ok) <| ifId 15 (lanternref02_Same.ph c15 c15ok) <| ifId 16 (shape_Area.ph c16 c16ok) <| ifId 17 (lanternref10_Area.ph c17 c17ok) <| ifId 18 (shape_Spread.ph c18 c18ok) <| ifId 19 (lanternref10_Spread.ph c19 c19ok) <| ifId 20 (shape_Bounds.ph c20 c20ok) <| ifId 21 (lanternref10_Bounds.ph c21 c21ok) <| ifId 9 (lanternlaw10_Awake.ph c9 c9ok) <| noFns
theorem lanternlaw10_ShapeTells.fnsOK : PureFns Tryz.prog (lanternlaw10_ShapeTells.fns (lanternref10_Valid M0) (lanternref10_Valid.ok M0) (lanternref03_Valid M0) (lanternref03_Valid.ok M0) (lanternref03_Same M0) (lanternref03_Same.ok M0) (shape_Normal M0) (shape_Normal.ok M0) (lanternref10_Normal M0) (lanternref10_Normal.ok M0) (lanternref02_Same M0) (lanternref02_Same.ok M0) (shape_Area M0) (shape_Area.ok M0) (lanternref10_Area M0) (lanternref10_Area.ok M0) (shape_Spread M0) (shape_Spread.ok M0) (lanternref10_Spread M0) (lanternref10_Spread.ok M0) (shape_Bounds M0) (shape_Bounds.ok M0) (lanternref10_Bounds M0) (lanternref10_Bounds.ok M0) (lanternlaw10_Awake M0) (lanternlaw10_Awake.ok M0)) := ifIdOK lanternref10_Valid.phOK <| ifIdOK lanternref03_Valid.phOK <| ifIdOK lanternref03_Same.phOK <| ifIdOK shape_Normal.phOK <| ifIdOK lanternref10_Normal.phOK <| ifIdOK lanternref02_Same.phOK <| ifIdOK shape_Area.phOK <| ifIdOK lanternref10_Area.phOK <| ifIdOK shape_Spread.phOK <| ifIdOK lanternref10_Spread.phOK <| ifIdOK shape_Bounds.phOK <| ifIdOK lanternref10_Bounds.phOK <| ifIdOK lanternlaw10_Awake.phOK <| noFnsOK
theorem lanternlaw10_ShapeTells.ev (M : Prims) (c10 : LShape → Bool) (c10ok : LShape → Bool) (c11 : LV3 → Bool) (c11ok : LV3 → Bool) (c12 : LV3 → LV3 → Bool) (c12ok : LV3 → LV3 → Bool) (c13 : LShape → LV3 → LV3) (c13ok : LShape → LV3 → Bool) (c14 : LShape → LV3 → LV3) (c14ok : LShape → LV3 → Bool) (c15 : LSpan → LSpan → Bool) (c15ok : LSpan → LSpan → Bool) (c16 : LShape → LSpan) (c16ok : LShape → Bool) (c17 : LShape → LSpan) (c17ok : LShape → Bool) (c18 : LShape → Nat → Nat → LV3) (c18ok : LShape → Nat → Nat → Bool) (c19 : LShape → Nat → Nat → LV3) (c19ok : LShape → Nat → Nat → Bool) (c20 : LShape → LBox) (c20ok : LShape → Bool) (c21 : LShape → LBox) (c21ok : LShape → Bool) (c9 : Bool) (c9ok : Bool)  (s : LShape) (p : LV3) (u : Nat) (v : Nat) : evP tab M (lanternlaw10_ShapeTells.fns c10 c10ok c11 c11ok c12 c12ok c13 c13ok c14 c14ok c15 c15ok c16 c16ok c17 c17ok c18 c18ok c19 c19ok c20 c20ok c21 c21ok c9 c9ok) noLoops 300 Tryz.f3 [s.val, p.val, (.float .f64 u), (.float .f64 v)] = lanternlaw10_ShapeTells.k M c10 c10ok c11 c11ok c12 c12ok c13 c13ok c14 c14ok c15 c15ok c16 c16ok c17 c17ok c18 c18ok c19 c19ok c20 c20ok c21 c21ok c9 c9ok  s p u v (fun r => some ((.bool r), [])) := by kernel_rfl
theorem lanternlaw10_ShapeTells.k_eq (M : Prims) (s : LShape) (p : LV3) (u : Nat) (v : Nat) (k : Bool → R) : lanternlaw10_ShapeTells.ok M s p u v = true → lanternlaw10_ShapeTells.k M (lanternref10_Valid M) (lanternref10_Valid.ok M) (lanternref03_Valid M) (lanternref03_Valid.ok M) (lanternref03_Same M) (lanternref03_Same.ok M) (shape_Normal M) (shape_Normal.ok M) (lanternref10_Normal M) (lanternref10_Normal.ok M) (lanternref02_Same M) (lanternref02_Same.ok M) (shape_Area M) (shape_Area.ok M) (lanternref10_Area M) (lanternref10_Area.ok M) (shape_Spread M) (shape_Spread.ok M) (lanternref10_Spread M) (lanternref10_Spread.ok M) (shape_Bounds M) (shape_Bounds.ok M) (lanternref10_Bounds M) (lanternref10_Bounds.ok M) (lanternlaw10_Awake M) (lanternlaw10_Awake.ok M) s p u v k = k (lanternlaw10_ShapeTells M s p u v) := by
  unfold lanternlaw10_ShapeTells.ok lanternlaw10_ShapeTells.k lanternlaw10_ShapeTells
  exact kL (kC (fun _ => rfl) (kL (kC (fun _ => rfl) (kL (kC (fun _ => rfl) (kL (kL (kL (kC (kL (kL (kL (kC (kL (kL (kL (kC (kL (kL (fun _ => rfl))) (fun _ => rfl))))) (fun _ => rfl))))) (fun _ => rfl))))))))))
theorem lanternlaw10_ShapeTells.call (s : LShape) (p : LV3) (u : Nat) (v : Nat) (h : lanternlaw10_ShapeTells.ok M0 s p u v = true) : PureOK Tryz.prog 3 [s.val, p.val, (.float .f64 u), (.float .f64 v)] (.bool (lanternlaw10_ShapeTells M0 s p u v)) :=
  evP_sound (P := Tryz.prog) mixed tabOK lanternlaw10_ShapeTells.fnsOK Tryz.func3 rfl (Λ := noLoops) (c := Tryz.f3.body.getD .skip) rfl (noLoopsOK _) rfl (Nat.zero_le 1) rfl rfl ((lanternlaw10_ShapeTells.ev M0 (lanternref10_Valid M0) (lanternref10_Valid.ok M0) (lanternref03_Valid M0) (lanternref03_Valid.ok M0) (lanternref03_Same M0) (lanternref03_Same.ok M0) (shape_Normal M0) (shape_Normal.ok M0) (lanternref10_Normal M0) (lanternref10_Normal.ok M0) (lanternref02_Same M0) (lanternref02_Same.ok M0) (shape_Area M0) (shape_Area.ok M0) (lanternref10_Area M0) (lanternref10_Area.ok M0) (shape_Spread M0) (shape_Spread.ok M0) (lanternref10_Spread M0) (lanternref10_Spread.ok M0) (shape_Bounds M0) (shape_Bounds.ok M0) (lanternref10_Bounds M0) (lanternref10_Bounds.ok M0) (lanternlaw10_Awake M0) (lanternlaw10_Awake.ok M0) s p u v).trans (lanternlaw10_ShapeTells.k_eq M0 s p u v _ h))
theorem lanternlaw10_ShapeTells.calls (s : LShape) (p : LV3) (u : Nat) (v : Nat) (h : lanternlaw10_ShapeTells.ok M0 s p u v = true) : ∀ w args', DRL w [s.val, p.val, (.float .f64 u), (.float .f64 v)] args' → Calls Tryz.prog 3 ⟨args'⟩ w fun e w' => ∃ v', e = .returned v' ∧ VR [] (.bool (lanternlaw10_ShapeTells M0 s p u v)) v' ∧ Go.RowKit.Below w.heap.size w w' :=
  evP_calls (P := Tryz.prog) mixed tabOK lanternlaw10_ShapeTells.fnsOK Tryz.func3 (Λ := noLoops) (c := Tryz.f3.body.getD .skip) rfl (noLoopsOK _) rfl (Nat.zero_le 1) rfl rfl ((lanternlaw10_ShapeTells.ev M0 (lanternref10_Valid M0) (lanternref10_Valid.ok M0) (lanternref03_Valid M0) (lanternref03_Valid.ok M0) (lanternref03_Same M0) (lanternref03_Same.ok M0) (shape_Normal M0) (shape_Normal.ok M0) (lanternref10_Normal M0) (lanternref10_Normal.ok M0) (lanternref02_Same M0) (lanternref02_Same.ok M0) (shape_Area M0) (shape_Area.ok M0) (lanternref10_Area M0) (lanternref10_Area.ok M0) (shape_Spread M0) (shape_Spread.ok M0) (lanternref10_Spread M0) (lanternref10_Spread.ok M0) (shape_Bounds M0) (shape_Bounds.ok M0) (lanternref10_Bounds M0) (lanternref10_Bounds.ok M0) (lanternlaw10_Awake M0) (lanternlaw10_Awake.ok M0) s p u v).trans (lanternlaw10_ShapeTells.k_eq M0 s p u v _ h))
end Go.Lan
