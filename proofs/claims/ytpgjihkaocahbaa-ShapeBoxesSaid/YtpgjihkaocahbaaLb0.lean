import Derived.Test.YtpgjihkaocahbaaLa
namespace Go.Lan
open Go.Proofs
def lanternref01_Number.k (M : Prims) (x : Nat) (k : Bool → R) : R :=
  k (M.eq (M.sub x x) 0)
def lanternref01_Number (M : Prims) (x : Nat) : Bool :=
  (M.eq (M.sub x x) 0)
def lanternref01_Number.fns : FuncId → List Value → Option (Bool × Value) := noFns
theorem lanternref01_Number.fnsOK : PureFns Try.prog lanternref01_Number.fns := noFnsOK
theorem lanternref01_Number.ev (M : Prims)   (x : Nat) : evP tab M lanternref01_Number.fns noLoops 300 Try.f88 [(.float .f64 x)] = lanternref01_Number.k M   x (fun r => some ((.bool r), [])) := by kernel_rfl
theorem lanternref01_Number.k_eq (M : Prims) (x : Nat) (k : Bool → R) : lanternref01_Number.k M  x k = k (lanternref01_Number M x) := by
  unfold lanternref01_Number.k lanternref01_Number
  exact rfl
theorem lanternref01_Number.call (x : Nat) : PureOK Try.prog 88 [(.float .f64 x)] (.bool (lanternref01_Number M0 x)) :=
  evP_sound (P := Try.prog) mixed tabOK lanternref01_Number.fnsOK Try.func88 rfl (Λ := noLoops) (c := Try.f88.body.getD .skip) rfl (noLoopsOK _) rfl (Nat.zero_le 1) rfl rfl ((lanternref01_Number.ev M0  x).trans (lanternref01_Number.k_eq M0 x _))
def lanternref01_Number.ph (c88 : Nat → Bool) : Ph := fun args => match args with
  | [.float .f64 a0_] => some (true, (.bool (c88 a0_)))
  | _ => none
theorem lanternref01_Number.phOK : PhOK Try.prog 88 (lanternref01_Number.ph (lanternref01_Number M0)) := ⟨by
  intro args v h
  unfold lanternref01_Number.ph at h
  split at h
  · rename_i a0_
    simp only [Option.some.injEq, Prod.mk.injEq, true_and] at h
    subst h
    exact ⟨rfl, rfl, lanternref01_Number.call a0_⟩
  · cases h⟩
def lanternref01_Inf.k (_ : Prims) (c94 : Int → Nat) (k : Nat → R) : R :=
  k (c94 9218868437227405312)
def lanternref01_Inf (_ : Prims) : Nat :=
  (f64from 9218868437227405312)
def lanternref01_Inf.fns (c94 : Int → Nat) : FuncId → List Value → Option (Bool × Value) := ifId 94 (f64from.ph c94) <| noFns
theorem lanternref01_Inf.fnsOK : PureFns Try.prog (lanternref01_Inf.fns f64from) := ifIdOK f64from.phOK <| noFnsOK
theorem lanternref01_Inf.ev (M : Prims) (c94 : Int → Nat)   : evP tab M (lanternref01_Inf.fns c94) noLoops 300 Try.f67 [] = lanternref01_Inf.k M c94   (fun r => some ((.float .f64 r), [])) := by kernel_rfl
theorem lanternref01_Inf.k_eq (M : Prims)  (k : Nat → R) : lanternref01_Inf.k M f64from  k = k (lanternref01_Inf M ) := by
  unfold lanternref01_Inf.k lanternref01_Inf
  exact rfl
theorem lanternref01_Inf.call  : PureOK Try.prog 67 [] (.float .f64 (lanternref01_Inf M0 )) :=
  evP_sound (P := Try.prog) mixed tabOK lanternref01_Inf.fnsOK Try.func67 rfl (Λ := noLoops) (c := Try.f67.body.getD .skip) rfl (noLoopsOK _) rfl (Nat.zero_le 1) rfl rfl ((lanternref01_Inf.ev M0 f64from ).trans (lanternref01_Inf.k_eq M0  _))
def lanternref01_Inf.ph (c67 : Nat) : Ph := fun args => match args with
  | [] => some (true, (.float .f64 (c67)))
  | _ => none
theorem lanternref01_Inf.phOK : PhOK Try.prog 67 (lanternref01_Inf.ph (lanternref01_Inf M0)) := ⟨by
  intro args v h
  unfold lanternref01_Inf.ph at h
  split at h
  · simp only [Option.some.injEq, Prod.mk.injEq, true_and] at h
    subst h
    exact ⟨rfl, rfl, lanternref01_Inf.call ⟩
  · cases h⟩
def lanternref02_All.k (M : Prims) (c67 : Nat) (k : LSpan → R) : R :=
  k (⟨(M.neg c67), c67⟩ : LSpan)
def lanternref02_All (M : Prims) : LSpan :=
  (⟨(M.neg (lanternref01_Inf M)), (lanternref01_Inf M)⟩ : LSpan)
def lanternref02_All.fns (c67 : Nat) : FuncId → List Value → Option (Bool × Value) := ifId 67 (lanternref01_Inf.ph c67) <| noFns
theorem lanternref02_All.fnsOK : PureFns Try.prog (lanternref02_All.fns (lanternref01_Inf M0)) := ifIdOK lanternref01_Inf.phOK <| noFnsOK
theorem lanternref02_All.ev (M : Prims) (c67 : Nat)   : evP tab M (lanternref02_All.fns c67) noLoops 300 Try.f89 [] = lanternref02_All.k M c67   (fun r => some (r.val, [])) := by kernel_rfl
theorem lanternref02_All.k_eq (M : Prims)  (k : LSpan → R) : lanternref02_All.k M (lanternref01_Inf M)  k = k (lanternref02_All M ) := by
  unfold lanternref02_All.k lanternref02_All
  exact rfl
theorem lanternref02_All.call  : PureOK Try.prog 89 [] ((lanternref02_All M0 ).val) :=
  evP_sound (P := Try.prog) mixed tabOK lanternref02_All.fnsOK Try.func89 rfl (Λ := noLoops) (c := Try.f89.body.getD .skip) rfl (noLoopsOK _) rfl (Nat.zero_le 1) rfl rfl ((lanternref02_All.ev M0 (lanternref01_Inf M0) ).trans (lanternref02_All.k_eq M0  _))
def lanternref02_All.ph (c89 : LSpan) : Ph := fun args => match args with
  | [] => some (true, (c89).val)
  | _ => none
theorem lanternref02_All.phOK : PhOK Try.prog 89 (lanternref02_All.ph (lanternref02_All M0)) := ⟨by
  intro args v h
  unfold lanternref02_All.ph at h
  split at h
  · simp only [Option.some.injEq, Prod.mk.injEq, true_and] at h
    subst h
    exact ⟨rfl, rfl, lanternref02_All.call ⟩
  · cases h⟩
def lanternref01_Zeroed.k (M : Prims) (x : Nat) (k : Nat → R) : R :=
  cond (M.eq x 0)
    (k 0)
    (k x)
def lanternref01_Zeroed (M : Prims) (x : Nat) : Nat :=
  cond (M.eq x 0)
    (0)
    (x)
def lanternref01_Zeroed.fns : FuncId → List Value → Option (Bool × Value) := noFns
theorem lanternref01_Zeroed.fnsOK : PureFns Try.prog lanternref01_Zeroed.fns := noFnsOK
theorem lanternref01_Zeroed.ev (M : Prims)   (x : Nat) : evP tab M lanternref01_Zeroed.fns noLoops 300 Try.f90 [(.float .f64 x)] = lanternref01_Zeroed.k M   x (fun r => some ((.float .f64 r), [])) := by kernel_rfl
theorem lanternref01_Zeroed.k_eq (M : Prims) (x : Nat) (k : Nat → R) : lanternref01_Zeroed.k M  x k = k (lanternref01_Zeroed M x) := by
  unfold lanternref01_Zeroed.k lanternref01_Zeroed
  exact pC rfl rfl
theorem lanternref01_Zeroed.call (x : Nat) : PureOK Try.prog 90 [(.float .f64 x)] (.float .f64 (lanternref01_Zeroed M0 x)) :=
  evP_sound (P := Try.prog) mixed tabOK lanternref01_Zeroed.fnsOK Try.func90 rfl (Λ := noLoops) (c := Try.f90.body.getD .skip) rfl (noLoopsOK _) rfl (Nat.zero_le 1) rfl rfl ((lanternref01_Zeroed.ev M0  x).trans (lanternref01_Zeroed.k_eq M0 x _))
def lanternref01_Zeroed.ph (c90 : Nat → Nat) : Ph := fun args => match args with
  | [.float .f64 a0_] => some (true, (.float .f64 (c90 a0_)))
  | _ => none
theorem lanternref01_Zeroed.phOK : PhOK Try.prog 90 (lanternref01_Zeroed.ph (lanternref01_Zeroed M0)) := ⟨by
  intro args v h
  unfold lanternref01_Zeroed.ph at h
  split at h
  · rename_i a0_
    simp only [Option.some.injEq, Prod.mk.injEq, true_and] at h
    subst h
    exact ⟨rfl, rfl, lanternref01_Zeroed.call a0_⟩
  · cases h⟩
def lanternref02_Of.k (_ : Prims) (c88 : Nat → Bool) (c89 : LSpan) (c90 : Nat → Nat) (x : Nat) (k : LSpan → R) : R :=
  cond (!(c88 x))
    (k c89)
    (k (⟨(c90 x), (c90 x)⟩ : LSpan))
def lanternref02_Of (M : Prims) (x : Nat) : LSpan :=
  cond (!(lanternref01_Number M x))
    ((lanternref02_All M))
    ((⟨(lanternref01_Zeroed M x), (lanternref01_Zeroed M x)⟩ : LSpan))
def lanternref02_Of.fns (c88 : Nat → Bool) (c89 : LSpan) (c90 : Nat → Nat) : FuncId → List Value → Option (Bool × Value) := ifId 88 (lanternref01_Number.ph c88) <| ifId 89 (lanternref02_All.ph c89) <| ifId 90 (lanternref01_Zeroed.ph c90) <| noFns
theorem lanternref02_Of.fnsOK : PureFns Try.prog (lanternref02_Of.fns (lanternref01_Number M0) (lanternref02_All M0) (lanternref01_Zeroed M0)) := ifIdOK lanternref01_Number.phOK <| ifIdOK lanternref02_All.phOK <| ifIdOK lanternref01_Zeroed.phOK <| noFnsOK
theorem lanternref02_Of.ev (M : Prims) (c88 : Nat → Bool) (c89 : LSpan) (c90 : Nat → Nat)  (x : Nat) : evP tab M (lanternref02_Of.fns c88 c89 c90) noLoops 300 Try.f51 [(.float .f64 x)] = lanternref02_Of.k M c88 c89 c90  x (fun r => some (r.val, [])) := by kernel_rfl
theorem lanternref02_Of.k_eq (M : Prims) (x : Nat) (k : LSpan → R) : lanternref02_Of.k M (lanternref01_Number M) (lanternref02_All M) (lanternref01_Zeroed M) x k = k (lanternref02_Of M x) := by
  unfold lanternref02_Of.k lanternref02_Of
  exact pC rfl rfl
theorem lanternref02_Of.call (x : Nat) : PureOK Try.prog 51 [(.float .f64 x)] ((lanternref02_Of M0 x).val) :=
  evP_sound (P := Try.prog) mixed tabOK lanternref02_Of.fnsOK Try.func51 rfl (Λ := noLoops) (c := Try.f51.body.getD .skip) rfl (noLoopsOK _) rfl (Nat.zero_le 1) rfl rfl ((lanternref02_Of.ev M0 (lanternref01_Number M0) (lanternref02_All M0) (lanternref01_Zeroed M0) x).trans (lanternref02_Of.k_eq M0 x _))
def lanternref02_Of.ph (c51 : Nat → LSpan) : Ph := fun args => match args with
  | [.float .f64 a0_] => some (true, (c51 a0_).val)
  | _ => none
theorem lanternref02_Of.phOK : PhOK Try.prog 51 (lanternref02_Of.ph (lanternref02_Of M0)) := ⟨by
  intro args v h
  unfold lanternref02_Of.ph at h
  split at h
  · rename_i a0_
    simp only [Option.some.injEq, Prod.mk.injEq, true_and] at h
    subst h
    exact ⟨rfl, rfl, lanternref02_Of.call a0_⟩
  · cases h⟩
def lanternref03_Of.k (_ : Prims) (c51 : Nat → LSpan) (t : LTriple) (k : LV3 → R) : R :=
  k (⟨(c51 t.p0), (c51 t.p1), (c51 t.p2)⟩ : LV3)
def lanternref03_Of (M : Prims) (t : LTriple) : LV3 :=
  (⟨(lanternref02_Of M t.p0), (lanternref02_Of M t.p1), (lanternref02_Of M t.p2)⟩ : LV3)
def lanternref03_Of.fns (c51 : Nat → LSpan) : FuncId → List Value → Option (Bool × Value) := ifId 51 (lanternref02_Of.ph c51) <| noFns
theorem lanternref03_Of.fnsOK : PureFns Try.prog (lanternref03_Of.fns (lanternref02_Of M0)) := ifIdOK lanternref02_Of.phOK <| noFnsOK
theorem lanternref03_Of.ev (M : Prims) (c51 : Nat → LSpan)  (t : LTriple) : evP tab M (lanternref03_Of.fns c51) noLoops 300 Try.f22 [t.val] = lanternref03_Of.k M c51  t (fun r => some (r.val, [])) := by kernel_rfl
theorem lanternref03_Of.k_eq (M : Prims) (t : LTriple) (k : LV3 → R) : lanternref03_Of.k M (lanternref02_Of M) t k = k (lanternref03_Of M t) := by
  unfold lanternref03_Of.k lanternref03_Of
  exact rfl
theorem lanternref03_Of.call (t : LTriple) : PureOK Try.prog 22 [t.val] ((lanternref03_Of M0 t).val) :=
  evP_sound (P := Try.prog) mixed tabOK lanternref03_Of.fnsOK Try.func22 rfl (Λ := noLoops) (c := Try.f22.body.getD .skip) rfl (noLoopsOK _) rfl (Nat.zero_le 1) rfl rfl ((lanternref03_Of.ev M0 (lanternref02_Of M0) t).trans (lanternref03_Of.k_eq M0 t _))
def lanternref03_Of.ph (c22 : LTriple → LV3) : Ph := fun args => match args with
  | [.agg ⟨[.float .f64 a0_0, .float .f64 a0_1, .float .f64 a0_2]⟩] => some (true, (c22 (⟨a0_0, a0_1, a0_2⟩ : LTriple)).val)
  | _ => none
theorem lanternref03_Of.phOK : PhOK Try.prog 22 (lanternref03_Of.ph (lanternref03_Of M0)) := ⟨by
  intro args v h
  unfold lanternref03_Of.ph at h
  split at h
  · rename_i a0_0 a0_1 a0_2
    simp only [Option.some.injEq, Prod.mk.injEq, true_and] at h
    subst h
    exact ⟨rfl, rfl, lanternref03_Of.call (⟨a0_0, a0_1, a0_2⟩ : LTriple)⟩
  · cases h⟩
def lanternlaw10_Tri.k (_ : Prims) (c22 : LTriple → LV3) (a : LTriple) (b : LTriple) (c : LTriple) (k : LShape → R) : R :=
  k (⟨1, (⟨(c22 a), (c22 b), (c22 c)⟩ : LA3V3), (⟨0, 0⟩ : LSpan)⟩ : LShape)
def lanternlaw10_Tri (M : Prims) (a : LTriple) (b : LTriple) (c : LTriple) : LShape :=
  (⟨1, (⟨(lanternref03_Of M a), (lanternref03_Of M b), (lanternref03_Of M c)⟩ : LA3V3), (⟨0, 0⟩ : LSpan)⟩ : LShape)
def lanternlaw10_Tri.fns (c22 : LTriple → LV3) : FuncId → List Value → Option (Bool × Value) := ifId 22 (lanternref03_Of.ph c22) <| noFns
theorem lanternlaw10_Tri.fnsOK : PureFns Try.prog (lanternlaw10_Tri.fns (lanternref03_Of M0)) := ifIdOK lanternref03_Of.phOK <| noFnsOK
theorem lanternlaw10_Tri.ev (M : Prims) (c22 : LTriple → LV3)  (a : LTriple) (b : LTriple) (c : LTriple) : evP tab M (lanternlaw10_Tri.fns c22) noLoops 300 Try.f17 [a.val, b.val, c.val] = lanternlaw10_Tri.k M c22  a b c (fun r => some (r.val, [])) := by kernel_rfl
theorem lanternlaw10_Tri.k_eq (M : Prims) (a : LTriple) (b : LTriple) (c : LTriple) (k : LShape → R) : lanternlaw10_Tri.k M (lanternref03_Of M) a b c k = k (lanternlaw10_Tri M a b c) := by
  unfold lanternlaw10_Tri.k lanternlaw10_Tri
  exact rfl
theorem lanternlaw10_Tri.call (a : LTriple) (b : LTriple) (c : LTriple) : PureOK Try.prog 17 [a.val, b.val, c.val] ((lanternlaw10_Tri M0 a b c).val) :=
  evP_sound (P := Try.prog) mixed tabOK lanternlaw10_Tri.fnsOK Try.func17 rfl (Λ := noLoops) (c := Try.f17.body.getD .skip) rfl (noLoopsOK _) rfl (Nat.zero_le 1) rfl rfl ((lanternlaw10_Tri.ev M0 (lanternref03_Of M0) a b c).trans (lanternlaw10_Tri.k_eq M0 a b c _))
def lanternlaw10_Tri.ph (c17 : LTriple → LTriple → LTriple → LShape) : Ph := fun args => match args with
  | [.agg ⟨[.float .f64 a0_0, .float .f64 a0_1, .float .f64 a0_2]⟩, .agg ⟨[.float .f64 a1_0, .float .f64 a1_1, .float .f64 a1_2]⟩, .agg ⟨[.float .f64 a2_0, .float .f64 a2_1, .float .f64 a2_2]⟩] => some (true, (c17 (⟨a0_0, a0_1, a0_2⟩ : LTriple) (⟨a1_0, a1_1, a1_2⟩ : LTriple) (⟨a2_0, a2_1, a2_2⟩ : LTriple)).val)
  | _ => none
theorem lanternlaw10_Tri.phOK : PhOK Try.prog 17 (lanternlaw10_Tri.ph (lanternlaw10_Tri M0)) := ⟨by
  intro args v h
  unfold lanternlaw10_Tri.ph at h
  split at h
  · rename_i a0_0 a0_1 a0_2 a1_0 a1_1 a1_2 a2_0 a2_1 a2_2
    simp only [Option.some.injEq, Prod.mk.injEq, true_and] at h
    subst h
    exact ⟨rfl, rfl, lanternlaw10_Tri.call (⟨a0_0, a0_1, a0_2⟩ : LTriple) (⟨a1_0, a1_1, a1_2⟩ : LTriple) (⟨a2_0, a2_1, a2_2⟩ : LTriple)⟩
  · cases h⟩
def lanternlaw10_Beam.k (_ : Prims) (c22 : LTriple → LV3) (o : LTriple) (d : LTriple) (k : LRay → R) : R :=
  k (⟨(c22 o), (c22 d)⟩ : LRay)
def lanternlaw10_Beam (M : Prims) (o : LTriple) (d : LTriple) : LRay :=
  (⟨(lanternref03_Of M o), (lanternref03_Of M d)⟩ : LRay)
def lanternlaw10_Beam.fns (c22 : LTriple → LV3) : FuncId → List Value → Option (Bool × Value) := ifId 22 (lanternref03_Of.ph c22) <| noFns
theorem lanternlaw10_Beam.fnsOK : PureFns Try.prog (lanternlaw10_Beam.fns (lanternref03_Of M0)) := ifIdOK lanternref03_Of.phOK <| noFnsOK
theorem lanternlaw10_Beam.ev (M : Prims) (c22 : LTriple → LV3)  (o : LTriple) (d : LTriple) : evP tab M (lanternlaw10_Beam.fns c22) noLoops 300 Try.f28 [o.val, d.val] = lanternlaw10_Beam.k M c22  o d (fun r => some (r.val, [])) := by kernel_rfl
theorem lanternlaw10_Beam.k_eq (M : Prims) (o : LTriple) (d : LTriple) (k : LRay → R) : lanternlaw10_Beam.k M (lanternref03_Of M) o d k = k (lanternlaw10_Beam M o d) := by
  unfold lanternlaw10_Beam.k lanternlaw10_Beam
  exact rfl
theorem lanternlaw10_Beam.call (o : LTriple) (d : LTriple) : PureOK Try.prog 28 [o.val, d.val] ((lanternlaw10_Beam M0 o d).val) :=
  evP_sound (P := Try.prog) mixed tabOK lanternlaw10_Beam.fnsOK Try.func28 rfl (Λ := noLoops) (c := Try.f28.body.getD .skip) rfl (noLoopsOK _) rfl (Nat.zero_le 1) rfl rfl ((lanternlaw10_Beam.ev M0 (lanternref03_Of M0) o d).trans (lanternlaw10_Beam.k_eq M0 o d _))
def lanternlaw10_Beam.ph (c28 : LTriple → LTriple → LRay) : Ph := fun args => match args with
  | [.agg ⟨[.float .f64 a0_0, .float .f64 a0_1, .float .f64 a0_2]⟩, .agg ⟨[.float .f64 a1_0, .float .f64 a1_1, .float .f64 a1_2]⟩] => some (true, (c28 (⟨a0_0, a0_1, a0_2⟩ : LTriple) (⟨a1_0, a1_1, a1_2⟩ : LTriple)).val)
  | _ => none
theorem lanternlaw10_Beam.phOK : PhOK Try.prog 28 (lanternlaw10_Beam.ph (lanternlaw10_Beam M0)) := ⟨by
  intro args v h
  unfold lanternlaw10_Beam.ph at h
  split at h
  · rename_i a0_0 a0_1 a0_2 a1_0 a1_1 a1_2
    simp only [Option.some.injEq, Prod.mk.injEq, true_and] at h
    subst h
    exact ⟨rfl, rfl, lanternlaw10_Beam.call (⟨a0_0, a0_1, a0_2⟩ : LTriple) (⟨a1_0, a1_1, a1_2⟩ : LTriple)⟩
  · cases h⟩
def span_Neg.k (M : Prims) (a : LSpan) (k : LSpan → R) : R :=
  k (⟨(M.sub 0 a.hi), (M.sub 0 a.lo)⟩ : LSpan)
def span_Neg (M : Prims) (a : LSpan) : LSpan :=
  (⟨(M.sub 0 a.hi), (M.sub 0 a.lo)⟩ : LSpan)
def span_Neg.fns : FuncId → List Value → Option (Bool × Value) := noFns
theorem span_Neg.fnsOK : PureFns Try.prog span_Neg.fns := noFnsOK
theorem span_Neg.ev (M : Prims)   (a : LSpan) : evP tab M span_Neg.fns noLoops 300 Try.f60 [a.val] = span_Neg.k M   a (fun r => some (r.val, [])) := by kernel_rfl
theorem span_Neg.k_eq (M : Prims) (a : LSpan) (k : LSpan → R) : span_Neg.k M  a k = k (span_Neg M a) := by
  unfold span_Neg.k span_Neg
  exact rfl
theorem span_Neg.call (a : LSpan) : PureOK Try.prog 60 [a.val] ((span_Neg M0 a).val) :=
  evP_sound (P := Try.prog) mixed tabOK span_Neg.fnsOK Try.func60 rfl (Λ := noLoops) (c := Try.f60.body.getD .skip) rfl (noLoopsOK _) rfl (Nat.zero_le 1) rfl rfl ((span_Neg.ev M0  a).trans (span_Neg.k_eq M0 a _))
def span_Neg.ph (c60 : LSpan → LSpan) : Ph := fun args => match args with
  | [.agg ⟨[.float .f64 a0_0, .float .f64 a0_1]⟩] => some (true, (c60 (⟨a0_0, a0_1⟩ : LSpan)).val)
  | _ => none
theorem span_Neg.phOK : PhOK Try.prog 60 (span_Neg.ph (span_Neg M0)) := ⟨by
  intro args v h
  unfold span_Neg.ph at h
  split at h
  · rename_i a0_0 a0_1
    simp only [Option.some.injEq, Prod.mk.injEq, true_and] at h
    subst h
    exact ⟨rfl, rfl, span_Neg.call (⟨a0_0, a0_1⟩ : LSpan)⟩
  · cases h⟩
def math_IsNaN.k (M : Prims) (f : Nat) (k : Bool → R) : R :=
  k (M.ne f f)
def math_IsNaN (M : Prims) (f : Nat) : Bool :=
  (M.ne f f)
def math_IsNaN.fns : FuncId → List Value → Option (Bool × Value) := noFns
theorem math_IsNaN.fnsOK : PureFns Try.prog math_IsNaN.fns := noFnsOK
theorem math_IsNaN.ev (M : Prims)   (f : Nat) : evP tab M math_IsNaN.fns noLoops 300 Try.f106 [(.float .f64 f)] = math_IsNaN.k M   f (fun r => some ((.bool r), [])) := by kernel_rfl
theorem math_IsNaN.k_eq (M : Prims) (f : Nat) (k : Bool → R) : math_IsNaN.k M  f k = k (math_IsNaN M f) := by
  unfold math_IsNaN.k math_IsNaN
  exact rfl
theorem math_IsNaN.call (f : Nat) : PureOK Try.prog 106 [(.float .f64 f)] (.bool (math_IsNaN M0 f)) :=
  evP_sound (P := Try.prog) mixed tabOK math_IsNaN.fnsOK Try.func106 rfl (Λ := noLoops) (c := Try.f106.body.getD .skip) rfl (noLoopsOK _) rfl (Nat.zero_le 1) rfl rfl ((math_IsNaN.ev M0  f).trans (math_IsNaN.k_eq M0 f _))
def math_IsNaN.ph (c106 : Nat → Bool) : Ph := fun args => match args with
  | [.float .f64 a0_] => some (true, (.bool (c106 a0_)))
  | _ => none
theorem math_IsNaN.phOK : PhOK Try.prog 106 (math_IsNaN.ph (math_IsNaN M0)) := ⟨by
  intro args v h
  unfold math_IsNaN.ph at h
  split at h
  · rename_i a0_
    simp only [Option.some.injEq, Prod.mk.injEq, true_and] at h
    subst h
    exact ⟨rfl, rfl, math_IsNaN.call a0_⟩
  · cases h⟩
def math_Abs.k (M : Prims) (c94 : Int → Nat) (c95 : Nat → Int) (c95ok : Nat → Bool) (x : Nat) (k : Nat → R) : R :=
  cond (c95ok x)
    (k (c94 (M.andNot .u64 (c95 x) 9223372036854775808)))
    (none)
def math_Abs (M : Prims) (x : Nat) : Nat :=
  (f64from (M.andNot .u64 (f64bits x) 9223372036854775808))
def math_Abs.ok (_ : Prims) (x : Nat) : Bool :=
  cond (f64bits.ok x)
    (true)
    (false)
def math_Abs.fns (c94 : Int → Nat) (c95 : Nat → Int) (c95ok : Nat → Bool) : FuncId → List Value → Option (Bool × Value) := ifId 94 (f64from.ph c94) <| ifId 95 (f64bits.ph c95 c95ok) <| noFns
theorem math_Abs.fnsOK : PureFns Try.prog (math_Abs.fns f64from f64bits f64bits.ok) := ifIdOK f64from.phOK <| ifIdOK f64bits.phOK <| noFnsOK
theorem math_Abs.ev (M : Prims) (c94 : Int → Nat) (c95 : Nat → Int) (c95ok : Nat → Bool)  (x : Nat) : evP tab M (math_Abs.fns c94 c95 c95ok) noLoops 300 Try.f111 [(.float .f64 x)] = math_Abs.k M c94 c95 c95ok  x (fun r => some ((.float .f64 r), [])) := by kernel_rfl
theorem math_Abs.k_eq (M : Prims) (x : Nat) (k : Nat → R) : math_Abs.ok M x = true → math_Abs.k M f64from f64bits f64bits.ok x k = k (math_Abs M x) := by
  unfold math_Abs.ok math_Abs.k math_Abs
  exact kL (fun _ => rfl)
theorem math_Abs.call (x : Nat) (h : math_Abs.ok M0 x = true) : PureOK Try.prog 111 [(.float .f64 x)] (.float .f64 (math_Abs M0 x)) :=
  evP_sound (P := Try.prog) mixed tabOK math_Abs.fnsOK Try.func111 rfl (Λ := noLoops) (c := Try.f111.body.getD .skip) rfl (noLoopsOK _) rfl (Nat.zero_le 1) rfl rfl ((math_Abs.ev M0 f64from f64bits f64bits.ok x).trans (math_Abs.k_eq M0 x _ h))
def math_Abs.ph (c111 : Nat → Nat) (c111ok : Nat → Bool) : Ph := fun args => match args with
  | [.float .f64 a0_] => some (c111ok a0_, (.float .f64 (c111 a0_)))
  | _ => none
theorem math_Abs.phOK : PhOK Try.prog 111 (math_Abs.ph (math_Abs M0) (math_Abs.ok M0)) := ⟨by
  intro args v h
  unfold math_Abs.ph at h
  split at h
  · rename_i a0_
    simp only [Option.some.injEq, Prod.mk.injEq] at h
    obtain ⟨hok, rfl⟩ := h
    exact ⟨rfl, rfl, math_Abs.call a0_ hok⟩
  · cases h⟩
def math_IsInf.k (M : Prims) (c111 : Nat → Nat) (c111ok : Nat → Bool) (f : Nat) (sign : Int) (k : Bool → R) : R :=
  cond ((sign : Int) == 0)
    (cond (c111ok f)
       (k (M.gt (c111 f) 9218868437227405311))
       (none))
    (cond (decide (sign < 0))
       (k (M.gt (M.neg f) 9218868437227405311))
       (k (M.gt f 9218868437227405311)))
def math_IsInf (M : Prims) (f : Nat) (sign : Int) : Bool :=
  cond ((sign : Int) == 0)
    ((M.gt (math_Abs M f) 9218868437227405311))
    (cond (decide (sign < 0))
       ((M.gt (M.neg f) 9218868437227405311))
       ((M.gt f 9218868437227405311)))
def math_IsInf.ok (M : Prims) (f : Nat) (sign : Int) : Bool :=
  cond ((sign : Int) == 0)
    (cond (math_Abs.ok M f)
       (true)
       (false))
    (true)
def math_IsInf.fns (c111 : Nat → Nat) (c111ok : Nat → Bool) : FuncId → List Value → Option (Bool × Value) := ifId 111 (math_Abs.ph c111 c111ok) <| noFns
theorem math_IsInf.fnsOK : PureFns Try.prog (math_IsInf.fns (math_Abs M0) (math_Abs.ok M0)) := ifIdOK math_Abs.phOK <| noFnsOK
theorem math_IsInf.ev (M : Prims) (c111 : Nat → Nat) (c111ok : Nat → Bool)  (f : Nat) (sign : Int) : evP tab M (math_IsInf.fns c111 c111ok) noLoops 300 Try.f98 [(.float .f64 f), (.int .i64 sign)] = math_IsInf.k M c111 c111ok  f sign (fun r => some ((.bool r), [])) := by kernel_rfl
theorem math_IsInf.k_eq (M : Prims) (f : Nat) (sign : Int) (k : Bool → R) : math_IsInf.ok M f sign = true → math_IsInf.k M (math_Abs M) (math_Abs.ok M) f sign k = k (math_IsInf M f sign) := by
  unfold math_IsInf.ok math_IsInf.k math_IsInf
  exact kC (kL (fun _ => rfl)) (fun _ => pC rfl rfl)
theorem math_IsInf.call (f : Nat) (sign : Int) (h : math_IsInf.ok M0 f sign = true) : PureOK Try.prog 98 [(.float .f64 f), (.int .i64 sign)] (.bool (math_IsInf M0 f sign)) :=
  evP_sound (P := Try.prog) mixed tabOK math_IsInf.fnsOK Try.func98 rfl (Λ := noLoops) (c := Try.f98.body.getD .skip) rfl (noLoopsOK _) rfl (Nat.zero_le 1) rfl rfl ((math_IsInf.ev M0 (math_Abs M0) (math_Abs.ok M0) f sign).trans (math_IsInf.k_eq M0 f sign _ h))
def math_IsInf.ph (c98 : Nat → Int → Bool) (c98ok : Nat → Int → Bool) : Ph := fun args => match args with
  | [.float .f64 a0_, .int .i64 a1_] => some (c98ok a0_ a1_, (.bool (c98 a0_ a1_)))
  | _ => none
theorem math_IsInf.phOK : PhOK Try.prog 98 (math_IsInf.ph (math_IsInf M0) (math_IsInf.ok M0)) := ⟨by
  intro args v h
  unfold math_IsInf.ph at h
  split at h
  · rename_i a0_ a1_
    simp only [Option.some.injEq, Prod.mk.injEq] at h
    obtain ⟨hok, rfl⟩ := h
    exact ⟨rfl, rfl, math_IsInf.call a0_ a1_ hok⟩
  · cases h⟩
def round_Number.k (_ : Prims) (c106 : Nat → Bool) (c98 : Nat → Int → Bool) (c98ok : Nat → Int → Bool) (x : Nat) (k : Bool → R) : R :=
  cond (!(c106 x))
    (cond (c98ok x 0)
       (k (!(c98 x 0)))
       (none))
    (k false)
def round_Number (M : Prims) (x : Nat) : Bool :=
  cond (!(math_IsNaN M x))
    ((!(math_IsInf M x 0)))
    (false)
def round_Number.ok (M : Prims) (x : Nat) : Bool :=
  cond (!(math_IsNaN M x))
    (cond (math_IsInf.ok M x 0)
       (true)
       (false))
    (true)
def round_Number.fns (c106 : Nat → Bool) (c98 : Nat → Int → Bool) (c98ok : Nat → Int → Bool) : FuncId → List Value → Option (Bool × Value) := ifId 106 (math_IsNaN.ph c106) <| ifId 98 (math_IsInf.ph c98 c98ok) <| noFns
theorem round_Number.fnsOK : PureFns Try.prog (round_Number.fns (math_IsNaN M0) (math_IsInf M0) (math_IsInf.ok M0)) := ifIdOK math_IsNaN.phOK <| ifIdOK math_IsInf.phOK <| noFnsOK
theorem round_Number.ev (M : Prims) (c106 : Nat → Bool) (c98 : Nat → Int → Bool) (c98ok : Nat → Int → Bool)  (x : Nat) : evP tab M (round_Number.fns c106 c98 c98ok) noLoops 300 Try.f80 [(.float .f64 x)] = round_Number.k M c106 c98 c98ok  x (fun r => some ((.bool r), [])) := by kernel_rfl
theorem round_Number.k_eq (M : Prims) (x : Nat) (k : Bool → R) : round_Number.ok M x = true → round_Number.k M (math_IsNaN M) (math_IsInf M) (math_IsInf.ok M) x k = k (round_Number M x) := by
  unfold round_Number.ok round_Number.k round_Number
  exact kC (kL (fun _ => rfl)) (fun _ => rfl)
theorem round_Number.call (x : Nat) (h : round_Number.ok M0 x = true) : PureOK Try.prog 80 [(.float .f64 x)] (.bool (round_Number M0 x)) :=
  evP_sound (P := Try.prog) mixed tabOK round_Number.fnsOK Try.func80 rfl (Λ := noLoops) (c := Try.f80.body.getD .skip) rfl (noLoopsOK _) rfl (Nat.zero_le 1) rfl rfl ((round_Number.ev M0 (math_IsNaN M0) (math_IsInf M0) (math_IsInf.ok M0) x).trans (round_Number.k_eq M0 x _ h))
def round_Number.ph (c80 : Nat → Bool) (c80ok : Nat → Bool) : Ph := fun args => match args with
  | [.float .f64 a0_] => some (c80ok a0_, (.bool (c80 a0_)))
  | _ => none
theorem round_Number.phOK : PhOK Try.prog 80 (round_Number.ph (round_Number M0) (round_Number.ok M0)) := ⟨by
  intro args v h
  unfold round_Number.ph at h
  split at h
  · rename_i a0_
    simp only [Option.some.injEq, Prod.mk.injEq] at h
    obtain ⟨hok, rfl⟩ := h
    exact ⟨rfl, rfl, round_Number.call a0_ hok⟩
  · cases h⟩
def round_two.k (_ : Prims) (c80 : Nat → Bool) (c80ok : Nat → Bool) (a : Nat) (b : Nat) (k : Bool → R) : R :=
  cond (c80ok a)
    (cond (c80 a)
       (cond (c80ok b)
          (k (c80 b))
          (none))
       (k false))
    (none)
def round_two (M : Prims) (a : Nat) (b : Nat) : Bool :=
  cond (round_Number M a)
    ((round_Number M b))
    (false)
def round_two.ok (M : Prims) (a : Nat) (b : Nat) : Bool :=
  cond (round_Number.ok M a)
    (cond (round_Number M a)
       (cond (round_Number.ok M b)
          (true)
          (false))
       (true))
    (false)
def round_two.fns (c80 : Nat → Bool) (c80ok : Nat → Bool) : FuncId → List Value → Option (Bool × Value) := ifId 80 (round_Number.ph c80 c80ok) <| noFns
theorem round_two.fnsOK : PureFns Try.prog (round_two.fns (round_Number M0) (round_Number.ok M0)) := ifIdOK round_Number.phOK <| noFnsOK
theorem round_two.ev (M : Prims) (c80 : Nat → Bool) (c80ok : Nat → Bool)  (a : Nat) (b : Nat) : evP tab M (round_two.fns c80 c80ok) noLoops 300 Try.f99 [(.float .f64 a), (.float .f64 b)] = round_two.k M c80 c80ok  a b (fun r => some ((.bool r), [])) := by kernel_rfl
theorem round_two.k_eq (M : Prims) (a : Nat) (b : Nat) (k : Bool → R) : round_two.ok M a b = true → round_two.k M (round_Number M) (round_Number.ok M) a b k = k (round_two M a b) := by
  unfold round_two.ok round_two.k round_two
  exact kL (kC (kL (fun _ => rfl)) (fun _ => rfl))
theorem round_two.call (a : Nat) (b : Nat) (h : round_two.ok M0 a b = true) : PureOK Try.prog 99 [(.float .f64 a), (.float .f64 b)] (.bool (round_two M0 a b)) :=
  evP_sound (P := Try.prog) mixed tabOK round_two.fnsOK Try.func99 rfl (Λ := noLoops) (c := Try.f99.body.getD .skip) rfl (noLoopsOK _) rfl (Nat.zero_le 1) rfl rfl ((round_two.ev M0 (round_Number M0) (round_Number.ok M0) a b).trans (round_two.k_eq M0 a b _ h))
def round_two.ph (c99 : Nat → Nat → Bool) (c99ok : Nat → Nat → Bool) : Ph := fun args => match args with
  | [.float .f64 a0_, .float .f64 a1_] => some (c99ok a0_ a1_, (.bool (c99 a0_ a1_)))
  | _ => none
theorem round_two.phOK : PhOK Try.prog 99 (round_two.ph (round_two M0) (round_two.ok M0)) := ⟨by
  intro args v h
  unfold round_two.ph at h
  split at h
  · rename_i a0_ a1_
    simp only [Option.some.injEq, Prod.mk.injEq] at h
    obtain ⟨hok, rfl⟩ := h
    exact ⟨rfl, rfl, round_two.call a0_ a1_ hok⟩
  · cases h⟩
def round_split.k (M : Prims) (c95 : Nat → Int) (c95ok : Nat → Bool) (x : Nat) (k : LExact → R) : R :=
  let x1 := c95 x
  cond (c95ok x)
    (let x2 := M.and .u64 x1 4503599627370495
     let x5 := IntKind.i64.wrap (M.and .u64 (shrV .u64 x1 52) 2047)
     cond ((x5 : Int) == 0)
       (k (⟨(((shrV .u64 x1 63) : Int) != 0), 0, x2, (-1074), false⟩ : LExact))
       (k (⟨(((shrV .u64 x1 63) : Int) != 0), 0, (M.or .u64 x2 4503599627370496), (IntKind.i64.wrap (x5 - 1075)), false⟩ : LExact)))
    (none)
def round_split (M : Prims) (x : Nat) : LExact :=
  let x1 := f64bits x
  let x2 := M.and .u64 x1 4503599627370495
  let x5 := IntKind.i64.wrap (M.and .u64 (shrV .u64 x1 52) 2047)
  cond ((x5 : Int) == 0)
    ((⟨(((shrV .u64 x1 63) : Int) != 0), 0, x2, (-1074), false⟩ : LExact))
    ((⟨(((shrV .u64 x1 63) : Int) != 0), 0, (M.or .u64 x2 4503599627370496), (IntKind.i64.wrap (x5 - 1075)), false⟩ : LExact))
def round_split.ok (_ : Prims) (x : Nat) : Bool :=
  cond (f64bits.ok x)
    (true)
    (false)
def round_split.fns (c95 : Nat → Int) (c95ok : Nat → Bool) : FuncId → List Value → Option (Bool × Value) := ifId 95 (f64bits.ph c95 c95ok) <| noFns
theorem round_split.fnsOK : PureFns Try.prog (round_split.fns f64bits f64bits.ok) := ifIdOK f64bits.phOK <| noFnsOK
theorem round_split.ev (M : Prims) (c95 : Nat → Int) (c95ok : Nat → Bool)  (x : Nat) : evP tab M (round_split.fns c95 c95ok) noLoops 300 Try.f100 [(.float .f64 x)] = round_split.k M c95 c95ok  x (fun r => some (r.val, [])) := by kernel_rfl
theorem round_split.k_eq (M : Prims) (x : Nat) (k : LExact → R) : round_split.ok M x = true → round_split.k M f64bits f64bits.ok x k = k (round_split M x) := by
  unfold round_split.ok round_split.k round_split
  exact kL (fun _ => pC rfl rfl)
theorem round_split.call (x : Nat) (h : round_split.ok M0 x = true) : PureOK Try.prog 100 [(.float .f64 x)] ((round_split M0 x).val) :=
  evP_sound (P := Try.prog) mixed tabOK round_split.fnsOK Try.func100 rfl (Λ := noLoops) (c := Try.f100.body.getD .skip) rfl (noLoopsOK _) rfl (Nat.zero_le 1) rfl rfl ((round_split.ev M0 f64bits f64bits.ok x).trans (round_split.k_eq M0 x _ h))
def round_split.ph (c100 : Nat → LExact) (c100ok : Nat → Bool) : Ph := fun args => match args with
  | [.float .f64 a0_] => some (c100ok a0_, (c100 a0_).val)
  | _ => none
theorem round_split.phOK : PhOK Try.prog 100 (round_split.ph (round_split M0) (round_split.ok M0)) := ⟨by
  intro args v h
  unfold round_split.ph at h
  split at h
  · rename_i a0_
    simp only [Option.some.injEq, Prod.mk.injEq] at h
    obtain ⟨hok, rfl⟩ := h
    exact ⟨rfl, rfl, round_split.call a0_ hok⟩
  · cases h⟩
def round_exact_zero.k (_ : Prims) (x : LExact) (k : Bool → R) : R :=
  cond ((x.hi : Int) == 0)
    (k ((x.lo : Int) == 0))
    (k false)
def round_exact_zero (_ : Prims) (x : LExact) : Bool :=
  cond ((x.hi : Int) == 0)
    (((x.lo : Int) == 0))
    (false)
def round_exact_zero.fns : FuncId → List Value → Option (Bool × Value) := noFns
theorem round_exact_zero.fnsOK : PureFns Try.prog round_exact_zero.fns := noFnsOK
theorem round_exact_zero.ev (M : Prims)   (x : LExact) : evP tab M round_exact_zero.fns noLoops 300 Try.f117 [x.val] = round_exact_zero.k M   x (fun r => some ((.bool r), [])) := by kernel_rfl
theorem round_exact_zero.k_eq (M : Prims) (x : LExact) (k : Bool → R) : round_exact_zero.k M  x k = k (round_exact_zero M x) := by
  unfold round_exact_zero.k round_exact_zero
  exact pC rfl rfl
theorem round_exact_zero.call (x : LExact) : PureOK Try.prog 117 [x.val] (.bool (round_exact_zero M0 x)) :=
  evP_sound (P := Try.prog) mixed tabOK round_exact_zero.fnsOK Try.func117 rfl (Λ := noLoops) (c := Try.f117.body.getD .skip) rfl (noLoopsOK _) rfl (Nat.zero_le 1) rfl rfl ((round_exact_zero.ev M0  x).trans (round_exact_zero.k_eq M0 x _))
def round_exact_zero.ph (c117 : LExact → Bool) : Ph := fun args => match args with
  | [.agg ⟨[.bool a0_0, .int .u64 a0_1, .int .u64 a0_2, .int .i64 a0_3, .bool a0_4]⟩] => some (true, (.bool (c117 (⟨a0_0, a0_1, a0_2, a0_3, a0_4⟩ : LExact))))
  | _ => none
theorem round_exact_zero.phOK : PhOK Try.prog 117 (round_exact_zero.ph (round_exact_zero M0)) := ⟨by
  intro args v h
  unfold round_exact_zero.ph at h
  split at h
  · rename_i a0_0 a0_1 a0_2 a0_3 a0_4
    simp only [Option.some.injEq, Prod.mk.injEq, true_and] at h
    subst h
    exact ⟨rfl, rfl, round_exact_zero.call (⟨a0_0, a0_1, a0_2, a0_3, a0_4⟩ : LExact)⟩
  · cases h⟩
def bits_Len64.k (_ : Prims) (x : Int) (k : Int → R) : R :=
  cond (decide (x ≥ 4294967296))
    (let x2 := shrV .u64 x 32
     cond (decide (x2 ≥ 65536))
       (let x4 := shrV .u64 x2 16
        cond (decide (x4 ≥ 256))
          (let x7 := IntKind.u8.wrap (shrV .u64 x4 8)
           cond (decide (0 ≤ x7) && decide (x7 < (str0).size))
             (k (IntKind.i64.wrap (56 + (IntKind.i64.wrap ((str0.data.toList.getD (Int.toNat x7) 0).toNat)))))
             (none))
          (let x11 := IntKind.u8.wrap x4
           cond (decide (0 ≤ x11) && decide (x11 < (str0).size))
             (k (IntKind.i64.wrap (48 + (IntKind.i64.wrap ((str0.data.toList.getD (Int.toNat x11) 0).toNat)))))
             (none)))
       (cond (decide (x2 ≥ 256))
          (let x17 := IntKind.u8.wrap (shrV .u64 x2 8)
           cond (decide (0 ≤ x17) && decide (x17 < (str0).size))
             (k (IntKind.i64.wrap (40 + (IntKind.i64.wrap ((str0.data.toList.getD (Int.toNat x17) 0).toNat)))))
             (none))
          (let x21 := IntKind.u8.wrap x2
           cond (decide (0 ≤ x21) && decide (x21 < (str0).size))
             (k (IntKind.i64.wrap (32 + (IntKind.i64.wrap ((str0.data.toList.getD (Int.toNat x21) 0).toNat)))))
             (none))))
    (cond (decide (x ≥ 65536))
       (let x26 := shrV .u64 x 16
        cond (decide (x26 ≥ 256))
          (let x29 := IntKind.u8.wrap (shrV .u64 x26 8)
           cond (decide (0 ≤ x29) && decide (x29 < (str0).size))
             (k (IntKind.i64.wrap (24 + (IntKind.i64.wrap ((str0.data.toList.getD (Int.toNat x29) 0).toNat)))))
             (none))
          (let x33 := IntKind.u8.wrap x26
           cond (decide (0 ≤ x33) && decide (x33 < (str0).size))
             (k (IntKind.i64.wrap (16 + (IntKind.i64.wrap ((str0.data.toList.getD (Int.toNat x33) 0).toNat)))))
             (none)))
       (cond (decide (x ≥ 256))
          (let x39 := IntKind.u8.wrap (shrV .u64 x 8)
           cond (decide (0 ≤ x39) && decide (x39 < (str0).size))
             (k (IntKind.i64.wrap (8 + (IntKind.i64.wrap ((str0.data.toList.getD (Int.toNat x39) 0).toNat)))))
             (none))
          (let x43 := IntKind.u8.wrap x
           cond (decide (0 ≤ x43) && decide (x43 < (str0).size))
             (k (IntKind.i64.wrap (0 + (IntKind.i64.wrap ((str0.data.toList.getD (Int.toNat x43) 0).toNat)))))
             (none))))
def bits_Len64 (_ : Prims) (x : Int) : Int :=
  cond (decide (x ≥ 4294967296))
    (let x2 := shrV .u64 x 32
     cond (decide (x2 ≥ 65536))
       (let x4 := shrV .u64 x2 16
        cond (decide (x4 ≥ 256))
          ((IntKind.i64.wrap (56 + (IntKind.i64.wrap ((str0.data.toList.getD (Int.toNat (IntKind.u8.wrap (shrV .u64 x4 8))) 0).toNat)))))
          ((IntKind.i64.wrap (48 + (IntKind.i64.wrap ((str0.data.toList.getD (Int.toNat (IntKind.u8.wrap x4)) 0).toNat))))))
       (cond (decide (x2 ≥ 256))
          ((IntKind.i64.wrap (40 + (IntKind.i64.wrap ((str0.data.toList.getD (Int.toNat (IntKind.u8.wrap (shrV .u64 x2 8))) 0).toNat)))))
          ((IntKind.i64.wrap (32 + (IntKind.i64.wrap ((str0.data.toList.getD (Int.toNat (IntKind.u8.wrap x2)) 0).toNat)))))))
    (cond (decide (x ≥ 65536))
       (let x26 := shrV .u64 x 16
        cond (decide (x26 ≥ 256))
          ((IntKind.i64.wrap (24 + (IntKind.i64.wrap ((str0.data.toList.getD (Int.toNat (IntKind.u8.wrap (shrV .u64 x26 8))) 0).toNat)))))
          ((IntKind.i64.wrap (16 + (IntKind.i64.wrap ((str0.data.toList.getD (Int.toNat (IntKind.u8.wrap x26)) 0).toNat))))))
       (cond (decide (x ≥ 256))
          ((IntKind.i64.wrap (8 + (IntKind.i64.wrap ((str0.data.toList.getD (Int.toNat (IntKind.u8.wrap (shrV .u64 x 8))) 0).toNat)))))
          ((IntKind.i64.wrap (0 + (IntKind.i64.wrap ((str0.data.toList.getD (Int.toNat (IntKind.u8.wrap x)) 0).toNat)))))))
def bits_Len64.ok (_ : Prims) (x : Int) : Bool :=
  cond (decide (x ≥ 4294967296))
    (let x2 := shrV .u64 x 32
     cond (decide (x2 ≥ 65536))
       (let x4 := shrV .u64 x2 16
        cond (decide (x4 ≥ 256))
          (let x7 := IntKind.u8.wrap (shrV .u64 x4 8)
           cond (decide (0 ≤ x7) && decide (x7 < (str0).size))
             (true)
             (false))
          (let x11 := IntKind.u8.wrap x4
           cond (decide (0 ≤ x11) && decide (x11 < (str0).size))
             (true)
             (false)))
       (cond (decide (x2 ≥ 256))
          (let x17 := IntKind.u8.wrap (shrV .u64 x2 8)
           cond (decide (0 ≤ x17) && decide (x17 < (str0).size))
             (true)
             (false))
          (let x21 := IntKind.u8.wrap x2
           cond (decide (0 ≤ x21) && decide (x21 < (str0).size))
             (true)
             (false))))
    (cond (decide (x ≥ 65536))
       (let x26 := shrV .u64 x 16
        cond (decide (x26 ≥ 256))
          (let x29 := IntKind.u8.wrap (shrV .u64 x26 8)
           cond (decide (0 ≤ x29) && decide (x29 < (str0).size))
             (true)
             (false))
          (let x33 := IntKind.u8.wrap x26
           cond (decide (0 ≤ x33) && decide (x33 < (str0).size))
             (true)
             (false)))
       (cond (decide (x ≥ 256))
          (let x39 := IntKind.u8.wrap (shrV .u64 x 8)
           cond (decide (0 ≤ x39) && decide (x39 < (str0).size))
             (true)
             (false))
          (let x43 := IntKind.u8.wrap x
           cond (decide (0 ≤ x43) && decide (x43 < (str0).size))
             (true)
             (false))))
def bits_Len64.fns : FuncId → List Value → Option (Bool × Value) := noFns
theorem bits_Len64.fnsOK : PureFns Try.prog bits_Len64.fns := noFnsOK
theorem bits_Len64.ev (M : Prims)   (x : Int) : evP tab M bits_Len64.fns noLoops 300 Try.f112 [(.int .u64 x)] = bits_Len64.k M   x (fun r => some ((.int .i64 r), [])) := by kernel_rfl
theorem bits_Len64.k_eq (M : Prims) (x : Int) (k : Int → R) : bits_Len64.ok M x = true → bits_Len64.k M  x k = k (bits_Len64 M x) := by
  unfold bits_Len64.ok bits_Len64.k bits_Len64
  exact kC (kC (kC (kL (fun _ => rfl)) (kL (fun _ => rfl))) (kC (kL (fun _ => rfl)) (kL (fun _ => rfl)))) (kC (kC (kL (fun _ => rfl)) (kL (fun _ => rfl))) (kC (kL (fun _ => rfl)) (kL (fun _ => rfl))))
theorem bits_Len64.call (x : Int) (h : bits_Len64.ok M0 x = true) : PureOK Try.prog 112 [(.int .u64 x)] (.int .i64 (bits_Len64 M0 x)) :=
  evP_sound (P := Try.prog) mixed tabOK bits_Len64.fnsOK Try.func112 rfl (Λ := noLoops) (c := Try.f112.body.getD .skip) rfl (noLoopsOK _) rfl (Nat.zero_le 1) rfl rfl ((bits_Len64.ev M0  x).trans (bits_Len64.k_eq M0 x _ h))
def bits_Len64.ph (c112 : Int → Int) (c112ok : Int → Bool) : Ph := fun args => match args with
  | [.int .u64 a0_] => some (c112ok a0_, (.int .i64 (c112 a0_)))
  | _ => none
theorem bits_Len64.phOK : PhOK Try.prog 112 (bits_Len64.ph (bits_Len64 M0) (bits_Len64.ok M0)) := ⟨by
  intro args v h
  unfold bits_Len64.ph at h
  split at h
  · rename_i a0_
    simp only [Option.some.injEq, Prod.mk.injEq] at h
    obtain ⟨hok, rfl⟩ := h
    exact ⟨rfl, rfl, bits_Len64.call a0_ hok⟩
  · cases h⟩
def round_exact_length.k (_ : Prims) (c112 : Int → Int) (c112ok : Int → Bool) (x : LExact) (k : Int → R) : R :=
  cond ((x.hi : Int) != 0)
    (cond (c112ok x.hi)
       (k (IntKind.i64.wrap (64 + (c112 x.hi))))
       (none))
    (cond (c112ok x.lo)
       (k (c112 x.lo))
       (none))
def round_exact_length (M : Prims) (x : LExact) : Int :=
  cond ((x.hi : Int) != 0)
    ((IntKind.i64.wrap (64 + (bits_Len64 M x.hi))))
    ((bits_Len64 M x.lo))
def round_exact_length.ok (M : Prims) (x : LExact) : Bool :=
  cond ((x.hi : Int) != 0)
    (cond (bits_Len64.ok M x.hi)
       (true)
       (false))
    (cond (bits_Len64.ok M x.lo)
       (true)
       (false))
def round_exact_length.fns (c112 : Int → Int) (c112ok : Int → Bool) : FuncId → List Value → Option (Bool × Value) := ifId 112 (bits_Len64.ph c112 c112ok) <| noFns
theorem round_exact_length.fnsOK : PureFns Try.prog (round_exact_length.fns (bits_Len64 M0) (bits_Len64.ok M0)) := ifIdOK bits_Len64.phOK <| noFnsOK
theorem round_exact_length.ev (M : Prims) (c112 : Int → Int) (c112ok : Int → Bool)  (x : LExact) : evP tab M (round_exact_length.fns c112 c112ok) noLoops 300 Try.f102 [x.val] = round_exact_length.k M c112 c112ok  x (fun r => some ((.int .i64 r), [])) := by kernel_rfl
theorem round_exact_length.k_eq (M : Prims) (x : LExact) (k : Int → R) : round_exact_length.ok M x = true → round_exact_length.k M (bits_Len64 M) (bits_Len64.ok M) x k = k (round_exact_length M x) := by
  unfold round_exact_length.ok round_exact_length.k round_exact_length
  exact kC (kL (fun _ => rfl)) (kL (fun _ => rfl))
theorem round_exact_length.call (x : LExact) (h : round_exact_length.ok M0 x = true) : PureOK Try.prog 102 [x.val] (.int .i64 (round_exact_length M0 x)) :=
  evP_sound (P := Try.prog) mixed tabOK round_exact_length.fnsOK Try.func102 rfl (Λ := noLoops) (c := Try.f102.body.getD .skip) rfl (noLoopsOK _) rfl (Nat.zero_le 1) rfl rfl ((round_exact_length.ev M0 (bits_Len64 M0) (bits_Len64.ok M0) x).trans (round_exact_length.k_eq M0 x _ h))
def round_exact_length.ph (c102 : LExact → Int) (c102ok : LExact → Bool) : Ph := fun args => match args with
  | [.agg ⟨[.bool a0_0, .int .u64 a0_1, .int .u64 a0_2, .int .i64 a0_3, .bool a0_4]⟩] => some (c102ok (⟨a0_0, a0_1, a0_2, a0_3, a0_4⟩ : LExact), (.int .i64 (c102 (⟨a0_0, a0_1, a0_2, a0_3, a0_4⟩ : LExact))))
  | _ => none
theorem round_exact_length.phOK : PhOK Try.prog 102 (round_exact_length.ph (round_exact_length M0) (round_exact_length.ok M0)) := ⟨by
  intro args v h
  unfold round_exact_length.ph at h
  split at h
  · rename_i a0_0 a0_1 a0_2 a0_3 a0_4
    simp only [Option.some.injEq, Prod.mk.injEq] at h
    obtain ⟨hok, rfl⟩ := h
    exact ⟨rfl, rfl, round_exact_length.call (⟨a0_0, a0_1, a0_2, a0_3, a0_4⟩ : LExact) hok⟩
  · cases h⟩
def round_exact_left.k (M : Prims) (x : LExact) (n : Int) (k : LExact → R) : R :=
  cond (decide (n ≥ 64))
    (let x2 := IntKind.i64.wrap (n - 64)
     cond (decide (0 ≤ x2))
       (k (⟨x.neg, (shlV .u64 x.lo x2), 0, (IntKind.i64.wrap (x.e - n)), x.more⟩ : LExact))
       (none))
    (cond (decide (n > 0))
       (cond (decide (0 ≤ n))
          (let x7 := IntKind.i64.wrap (64 - n)
           cond (decide (0 ≤ x7))
             (cond (decide (0 ≤ n))
                (k (⟨x.neg, (M.or .u64 (shlV .u64 x.hi n) (shrV .u64 x.lo x7)), (shlV .u64 x.lo n), (IntKind.i64.wrap (x.e - n)), x.more⟩ : LExact))
                (none))
             (none))
          (none))
       (k (⟨x.neg, x.hi, x.lo, (IntKind.i64.wrap (x.e - n)), x.more⟩ : LExact)))
def round_exact_left (M : Prims) (x : LExact) (n : Int) : LExact :=
  cond (decide (n ≥ 64))
    ((⟨x.neg, (shlV .u64 x.lo (IntKind.i64.wrap (n - 64))), 0, (IntKind.i64.wrap (x.e - n)), x.more⟩ : LExact))
    (cond (decide (n > 0))
       ((⟨x.neg, (M.or .u64 (shlV .u64 x.hi n) (shrV .u64 x.lo (IntKind.i64.wrap (64 - n)))), (shlV .u64 x.lo n), (IntKind.i64.wrap (x.e - n)), x.more⟩ : LExact))
       ((⟨x.neg, x.hi, x.lo, (IntKind.i64.wrap (x.e - n)), x.more⟩ : LExact)))
def round_exact_left.ok (_ : Prims) (_ : LExact) (n : Int) : Bool :=
  cond (decide (n ≥ 64))
    (cond (decide (0 ≤ (IntKind.i64.wrap (n - 64))))
       (true)
       (false))
    (cond (decide (n > 0))
       (cond (decide (0 ≤ n))
          (cond (decide (0 ≤ (IntKind.i64.wrap (64 - n))))
             (cond (decide (0 ≤ n))
                (true)
                (false))
             (false))
          (false))
       (true))
def round_exact_left.fns : FuncId → List Value → Option (Bool × Value) := noFns
theorem round_exact_left.fnsOK : PureFns Try.prog round_exact_left.fns := noFnsOK
theorem round_exact_left.ev (M : Prims)   (x : LExact) (n : Int) : evP tab M round_exact_left.fns noLoops 300 Try.f101 [x.val, (.int .i64 n)] = round_exact_left.k M   x n (fun r => some (r.val, [])) := by kernel_rfl
theorem round_exact_left.k_eq (M : Prims) (x : LExact) (n : Int) (k : LExact → R) : round_exact_left.ok M x n = true → round_exact_left.k M  x n k = k (round_exact_left M x n) := by
  unfold round_exact_left.ok round_exact_left.k round_exact_left
  exact kC (kL (fun _ => rfl)) (kC (kL (kL (kL (fun _ => rfl)))) (fun _ => rfl))
theorem round_exact_left.call (x : LExact) (n : Int) (h : round_exact_left.ok M0 x n = true) : PureOK Try.prog 101 [x.val, (.int .i64 n)] ((round_exact_left M0 x n).val) :=
  evP_sound (P := Try.prog) mixed tabOK round_exact_left.fnsOK Try.func101 rfl (Λ := noLoops) (c := Try.f101.body.getD .skip) rfl (noLoopsOK _) rfl (Nat.zero_le 1) rfl rfl ((round_exact_left.ev M0  x n).trans (round_exact_left.k_eq M0 x n _ h))
def round_exact_left.ph (c101 : LExact → Int → LExact) (c101ok : LExact → Int → Bool) : Ph := fun args => match args with
  | [.agg ⟨[.bool a0_0, .int .u64 a0_1, .int .u64 a0_2, .int .i64 a0_3, .bool a0_4]⟩, .int .i64 a1_] => some (c101ok (⟨a0_0, a0_1, a0_2, a0_3, a0_4⟩ : LExact) a1_, (c101 (⟨a0_0, a0_1, a0_2, a0_3, a0_4⟩ : LExact) a1_).val)
  | _ => none
theorem round_exact_left.phOK : PhOK Try.prog 101 (round_exact_left.ph (round_exact_left M0) (round_exact_left.ok M0)) := ⟨by
  intro args v h
  unfold round_exact_left.ph at h
  split at h
  · rename_i a0_0 a0_1 a0_2 a0_3 a0_4 a1_
    simp only [Option.some.injEq, Prod.mk.injEq] at h
    obtain ⟨hok, rfl⟩ := h
    exact ⟨rfl, rfl, round_exact_left.call (⟨a0_0, a0_1, a0_2, a0_3, a0_4⟩ : LExact) a1_ hok⟩
  · cases h⟩
def round_exact_right.k (M : Prims) (c117 : LExact → Bool) (x : LExact) (n : Int) (k : LExact → R) : R :=
  let x1 := IntKind.i64.wrap (x.e + n)
  cond (decide (n ≤ 0))
    (k (⟨x.neg, x.hi, x.lo, (IntKind.i64.wrap (x1 - n)), x.more⟩ : LExact))
    (cond (decide (n ≥ 128))
       (cond x.more
          (k (⟨x.neg, 0, 0, x1, true⟩ : LExact))
          (k (⟨x.neg, 0, 0, x1, (!(c117 (⟨x.neg, x.hi, x.lo, x1, x.more⟩ : LExact)))⟩ : LExact)))
       (cond (decide (n ≥ 64))
          (cond x.more
             (let x8 := IntKind.i64.wrap (n - 64)
              cond (decide (0 ≤ x8))
                (k (⟨x.neg, 0, (shrV .u64 x.hi x8), x1, true⟩ : LExact))
                (none))
             (cond ((x.lo : Int) != 0)
                (let x11 := IntKind.i64.wrap (n - 64)
                 cond (decide (0 ≤ x11))
                   (k (⟨x.neg, 0, (shrV .u64 x.hi x11), x1, true⟩ : LExact))
                   (none))
                (let x13 := IntKind.i64.wrap (128 - n)
                 cond (decide (0 ≤ x13))
                   (cond (((shlV .u64 x.hi x13) : Int) != 0)
                      (let x17 := IntKind.i64.wrap (n - 64)
                       cond (decide (0 ≤ x17))
                         (k (⟨x.neg, 0, (shrV .u64 x.hi x17), x1, (decide (n > 64))⟩ : LExact))
                         (none))
                      (let x19 := IntKind.i64.wrap (n - 64)
                       cond (decide (0 ≤ x19))
                         (k (⟨x.neg, 0, (shrV .u64 x.hi x19), x1, false⟩ : LExact))
                         (none)))
                   (none))))
          (cond x.more
             (cond (decide (0 ≤ n))
                (cond (decide (0 ≤ n))
                   (let x23 := IntKind.i64.wrap (64 - n)
                    cond (decide (0 ≤ x23))
                      (k (⟨x.neg, (shrV .u64 x.hi n), (M.or .u64 (shrV .u64 x.lo n) (shlV .u64 x.hi x23)), x1, true⟩ : LExact))
                      (none))
                   (none))
                (none))
             (let x26 := IntKind.i64.wrap (64 - n)
              cond (decide (0 ≤ x26))
                (cond (decide (0 ≤ n))
                   (cond (decide (0 ≤ n))
                      (let x31 := IntKind.i64.wrap (64 - n)
                       cond (decide (0 ≤ x31))
                         (k (⟨x.neg, (shrV .u64 x.hi n), (M.or .u64 (shrV .u64 x.lo n) (shlV .u64 x.hi x31)), x1, (((shlV .u64 x.lo x26) : Int) != 0)⟩ : LExact))
                         (none))
                      (none))
                   (none))
                (none)))))
def round_exact_right (M : Prims) (x : LExact) (n : Int) : LExact :=
  let x1 := IntKind.i64.wrap (x.e + n)
  cond (decide (n ≤ 0))
    ((⟨x.neg, x.hi, x.lo, (IntKind.i64.wrap (x1 - n)), x.more⟩ : LExact))
    (cond (decide (n ≥ 128))
       (cond x.more
          ((⟨x.neg, 0, 0, x1, true⟩ : LExact))
          ((⟨x.neg, 0, 0, x1, (!(round_exact_zero M (⟨x.neg, x.hi, x.lo, x1, x.more⟩ : LExact)))⟩ : LExact)))
       (cond (decide (n ≥ 64))
          (cond x.more
             ((⟨x.neg, 0, (shrV .u64 x.hi (IntKind.i64.wrap (n - 64))), x1, true⟩ : LExact))
             (cond ((x.lo : Int) != 0)
                ((⟨x.neg, 0, (shrV .u64 x.hi (IntKind.i64.wrap (n - 64))), x1, true⟩ : LExact))
                (cond (((shlV .u64 x.hi (IntKind.i64.wrap (128 - n))) : Int) != 0)
                   ((⟨x.neg, 0, (shrV .u64 x.hi (IntKind.i64.wrap (n - 64))), x1, (decide (n > 64))⟩ : LExact))
                   ((⟨x.neg, 0, (shrV .u64 x.hi (IntKind.i64.wrap (n - 64))), x1, false⟩ : LExact)))))
          (cond x.more
             ((⟨x.neg, (shrV .u64 x.hi n), (M.or .u64 (shrV .u64 x.lo n) (shlV .u64 x.hi (IntKind.i64.wrap (64 - n)))), x1, true⟩ : LExact))
             ((⟨x.neg, (shrV .u64 x.hi n), (M.or .u64 (shrV .u64 x.lo n) (shlV .u64 x.hi (IntKind.i64.wrap (64 - n)))), x1, (((shlV .u64 x.lo (IntKind.i64.wrap (64 - n))) : Int) != 0)⟩ : LExact)))))
def round_exact_right.ok (_ : Prims) (x : LExact) (n : Int) : Bool :=
  cond (decide (n ≤ 0))
    (true)
    (cond (decide (n ≥ 128))
       (true)
       (cond (decide (n ≥ 64))
          (cond x.more
             (cond (decide (0 ≤ (IntKind.i64.wrap (n - 64))))
                (true)
                (false))
             (cond ((x.lo : Int) != 0)
                (cond (decide (0 ≤ (IntKind.i64.wrap (n - 64))))
                   (true)
                   (false))
                (let x13 := IntKind.i64.wrap (128 - n)
                 cond (decide (0 ≤ x13))
                   (cond (((shlV .u64 x.hi x13) : Int) != 0)
                      (cond (decide (0 ≤ (IntKind.i64.wrap (n - 64))))
                         (true)
                         (false))
                      (cond (decide (0 ≤ (IntKind.i64.wrap (n - 64))))
                         (true)
                         (false)))
                   (false))))
          (cond x.more
             (cond (decide (0 ≤ n))
                (cond (decide (0 ≤ n))
                   (cond (decide (0 ≤ (IntKind.i64.wrap (64 - n))))
                      (true)
                      (false))
                   (false))
                (false))
             (cond (decide (0 ≤ (IntKind.i64.wrap (64 - n))))
                (cond (decide (0 ≤ n))
                   (cond (decide (0 ≤ n))
                      (cond (decide (0 ≤ (IntKind.i64.wrap (64 - n))))
                         (true)
                         (false))
                      (false))
                   (false))
                (false)))))
def round_exact_right.fns (c117 : LExact → Bool) : FuncId → List Value → Option (Bool × Value) := ifId 117 (round_exact_zero.ph c117) <| noFns
theorem round_exact_right.fnsOK : PureFns Try.prog (round_exact_right.fns (round_exact_zero M0)) := ifIdOK round_exact_zero.phOK <| noFnsOK
theorem round_exact_right.ev (M : Prims) (c117 : LExact → Bool)  (x : LExact) (n : Int) : evP tab M (round_exact_right.fns c117) noLoops 300 Try.f114 [x.val, (.int .i64 n)] = round_exact_right.k M c117  x n (fun r => some (r.val, [])) := by kernel_rfl
theorem round_exact_right.k_eq (M : Prims) (x : LExact) (n : Int) (k : LExact → R) : round_exact_right.ok M x n = true → round_exact_right.k M (round_exact_zero M) x n k = k (round_exact_right M x n) := by
  unfold round_exact_right.ok round_exact_right.k round_exact_right
  exact kC (fun _ => rfl) (kC (fun _ => pC rfl rfl) (kC (kC (kL (fun _ => rfl)) (kC (kL (fun _ => rfl)) (kL (kC (kL (fun _ => rfl)) (kL (fun _ => rfl)))))) (kC (kL (kL (kL (fun _ => rfl)))) (kL (kL (kL (kL (fun _ => rfl))))))))
theorem round_exact_right.call (x : LExact) (n : Int) (h : round_exact_right.ok M0 x n = true) : PureOK Try.prog 114 [x.val, (.int .i64 n)] ((round_exact_right M0 x n).val) :=
  evP_sound (P := Try.prog) mixed tabOK round_exact_right.fnsOK Try.func114 rfl (Λ := noLoops) (c := Try.f114.body.getD .skip) rfl (noLoopsOK _) rfl (Nat.zero_le 1) rfl rfl ((round_exact_right.ev M0 (round_exact_zero M0) x n).trans (round_exact_right.k_eq M0 x n _ h))
def round_exact_right.ph (c114 : LExact → Int → LExact) (c114ok : LExact → Int → Bool) : Ph := fun args => match args with
  | [.agg ⟨[.bool a0_0, .int .u64 a0_1, .int .u64 a0_2, .int .i64 a0_3, .bool a0_4]⟩, .int .i64 a1_] => some (c114ok (⟨a0_0, a0_1, a0_2, a0_3, a0_4⟩ : LExact) a1_, (c114 (⟨a0_0, a0_1, a0_2, a0_3, a0_4⟩ : LExact) a1_).val)
  | _ => none
theorem round_exact_right.phOK : PhOK Try.prog 114 (round_exact_right.ph (round_exact_right M0) (round_exact_right.ok M0)) := ⟨by
  intro args v h
  unfold round_exact_right.ph at h
  split at h
  · rename_i a0_0 a0_1 a0_2 a0_3 a0_4 a1_
    simp only [Option.some.injEq, Prod.mk.injEq] at h
    obtain ⟨hok, rfl⟩ := h
    exact ⟨rfl, rfl, round_exact_right.call (⟨a0_0, a0_1, a0_2, a0_3, a0_4⟩ : LExact) a1_ hok⟩
  · cases h⟩
end Go.Lan
