import Derived.Test.YtpgjihkaocahbaaGreatGLb5Lb6
namespace Go.Lan
open Go.Proofs
def lanternref01_Down.k (M : Prims) (w : LWord) (n : Int) (k : LWord → R) : R :=
  cond (decide (n ≤ 0))
    (k w)
    (let x2 := IntKind.i64.wrap (w.e + n)
     cond (decide (n ≥ 64))
       (cond w.more
          (let x4 := IntKind.i64.wrap (n - 64)
           cond ((w.hi : Int) == 0)
             (k (⟨0, w.hi, x2, true⟩ : LWord))
             (cond (decide (x4 ≥ 64))
                (k (⟨0, 0, x2, true⟩ : LWord))
                (cond (decide (x4 > 0))
                   (cond (decide (0 ≤ x4))
                      (let x10 := IntKind.i64.wrap (64 - x4)
                       cond (decide (0 ≤ x10))
                         (cond (decide (0 ≤ x4))
                            (k (⟨(shrV .u64 0 x4), (M.or .u64 (shrV .u64 w.hi x4) (shlV .u64 0 x10)), x2, true⟩ : LWord))
                            (none))
                         (none))
                      (none))
                   (k (⟨0, w.hi, x2, true⟩ : LWord)))))
          (let x14 := (w.lo : Int) != 0
           let x15 := IntKind.i64.wrap (n - 64)
           cond ((w.hi : Int) == 0)
             (k (⟨0, w.hi, x2, x14⟩ : LWord))
             (cond (decide (x15 ≥ 64))
                (cond x14
                   (k (⟨0, 0, x2, true⟩ : LWord))
                   (k (⟨0, 0, x2, ((w.hi : Int) != 0)⟩ : LWord)))
                (cond (decide (x15 > 0))
                   (cond x14
                      (cond (decide (0 ≤ x15))
                         (let x23 := IntKind.i64.wrap (64 - x15)
                          cond (decide (0 ≤ x23))
                            (cond (decide (0 ≤ x15))
                               (k (⟨(shrV .u64 0 x15), (M.or .u64 (shrV .u64 w.hi x15) (shlV .u64 0 x23)), x2, true⟩ : LWord))
                               (none))
                            (none))
                         (none))
                      (let x27 := IntKind.i64.wrap (64 - x15)
                       cond (decide (0 ≤ x27))
                         (cond (decide (0 ≤ x15))
                            (let x31 := IntKind.i64.wrap (64 - x15)
                             cond (decide (0 ≤ x31))
                               (cond (decide (0 ≤ x15))
                                  (k (⟨(shrV .u64 0 x15), (M.or .u64 (shrV .u64 w.hi x15) (shlV .u64 0 x31)), x2, (((shlV .u64 w.hi x27) : Int) != 0)⟩ : LWord))
                                  (none))
                               (none))
                            (none))
                         (none)))
                   (k (⟨0, w.hi, x2, x14⟩ : LWord))))))
       (cond (decide (n > 0))
          (cond w.more
             (cond (decide (0 ≤ n))
                (let x37 := IntKind.i64.wrap (64 - n)
                 cond (decide (0 ≤ x37))
                   (cond (decide (0 ≤ n))
                      (k (⟨(shrV .u64 w.hi n), (M.or .u64 (shrV .u64 w.lo n) (shlV .u64 w.hi x37)), x2, true⟩ : LWord))
                      (none))
                   (none))
                (none))
             (let x41 := IntKind.i64.wrap (64 - n)
              cond (decide (0 ≤ x41))
                (cond (decide (0 ≤ n))
                   (let x45 := IntKind.i64.wrap (64 - n)
                    cond (decide (0 ≤ x45))
                      (cond (decide (0 ≤ n))
                         (k (⟨(shrV .u64 w.hi n), (M.or .u64 (shrV .u64 w.lo n) (shlV .u64 w.hi x45)), x2, (((shlV .u64 w.lo x41) : Int) != 0)⟩ : LWord))
                         (none))
                      (none))
                   (none))
                (none)))
          (k (⟨w.hi, w.lo, x2, w.more⟩ : LWord))))
def lanternref01_Down (M : Prims) (w : LWord) (n : Int) : LWord :=
  cond (decide (n ≤ 0))
    (w)
    (let x2 := IntKind.i64.wrap (w.e + n)
     cond (decide (n ≥ 64))
       (cond w.more
          (let x4 := IntKind.i64.wrap (n - 64)
           cond ((w.hi : Int) == 0)
             ((⟨0, w.hi, x2, true⟩ : LWord))
             (cond (decide (x4 ≥ 64))
                ((⟨0, 0, x2, true⟩ : LWord))
                (cond (decide (x4 > 0))
                   ((⟨(shrV .u64 0 x4), (M.or .u64 (shrV .u64 w.hi x4) (shlV .u64 0 (IntKind.i64.wrap (64 - x4)))), x2, true⟩ : LWord))
                   ((⟨0, w.hi, x2, true⟩ : LWord)))))
          (let x14 := (w.lo : Int) != 0
           let x15 := IntKind.i64.wrap (n - 64)
           cond ((w.hi : Int) == 0)
             ((⟨0, w.hi, x2, x14⟩ : LWord))
             (cond (decide (x15 ≥ 64))
                (cond x14
                   ((⟨0, 0, x2, true⟩ : LWord))
                   ((⟨0, 0, x2, ((w.hi : Int) != 0)⟩ : LWord)))
                (cond (decide (x15 > 0))
                   (cond x14
                      ((⟨(shrV .u64 0 x15), (M.or .u64 (shrV .u64 w.hi x15) (shlV .u64 0 (IntKind.i64.wrap (64 - x15)))), x2, true⟩ : LWord))
                      ((⟨(shrV .u64 0 x15), (M.or .u64 (shrV .u64 w.hi x15) (shlV .u64 0 (IntKind.i64.wrap (64 - x15)))), x2, (((shlV .u64 w.hi (IntKind.i64.wrap (64 - x15))) : Int) != 0)⟩ : LWord)))
                   ((⟨0, w.hi, x2, x14⟩ : LWord))))))
       (cond (decide (n > 0))
          (cond w.more
             ((⟨(shrV .u64 w.hi n), (M.or .u64 (shrV .u64 w.lo n) (shlV .u64 w.hi (IntKind.i64.wrap (64 - n)))), x2, true⟩ : LWord))
             ((⟨(shrV .u64 w.hi n), (M.or .u64 (shrV .u64 w.lo n) (shlV .u64 w.hi (IntKind.i64.wrap (64 - n)))), x2, (((shlV .u64 w.lo (IntKind.i64.wrap (64 - n))) : Int) != 0)⟩ : LWord)))
          ((⟨w.hi, w.lo, x2, w.more⟩ : LWord))))
def lanternref01_Down.ok (_ : Prims) (w : LWord) (n : Int) : Bool :=
  cond (decide (n ≤ 0))
    (true)
    (cond (decide (n ≥ 64))
       (cond w.more
          (let x4 := IntKind.i64.wrap (n - 64)
           cond ((w.hi : Int) == 0)
             (true)
             (cond (decide (x4 ≥ 64))
                (true)
                (cond (decide (x4 > 0))
                   (cond (decide (0 ≤ x4))
                      (cond (decide (0 ≤ (IntKind.i64.wrap (64 - x4))))
                         (cond (decide (0 ≤ x4))
                            (true)
                            (false))
                         (false))
                      (false))
                   (true))))
          (let x15 := IntKind.i64.wrap (n - 64)
           cond ((w.hi : Int) == 0)
             (true)
             (cond (decide (x15 ≥ 64))
                (true)
                (cond (decide (x15 > 0))
                   (cond ((w.lo : Int) != 0)
                      (cond (decide (0 ≤ x15))
                         (cond (decide (0 ≤ (IntKind.i64.wrap (64 - x15))))
                            (cond (decide (0 ≤ x15))
                               (true)
                               (false))
                            (false))
                         (false))
                      (cond (decide (0 ≤ (IntKind.i64.wrap (64 - x15))))
                         (cond (decide (0 ≤ x15))
                            (cond (decide (0 ≤ (IntKind.i64.wrap (64 - x15))))
                               (cond (decide (0 ≤ x15))
                                  (true)
                                  (false))
                               (false))
                            (false))
                         (false)))
                   (true)))))
       (cond (decide (n > 0))
          (cond w.more
             (cond (decide (0 ≤ n))
                (cond (decide (0 ≤ (IntKind.i64.wrap (64 - n))))
                   (cond (decide (0 ≤ n))
                      (true)
                      (false))
                   (false))
                (false))
             (cond (decide (0 ≤ (IntKind.i64.wrap (64 - n))))
                (cond (decide (0 ≤ n))
                   (cond (decide (0 ≤ (IntKind.i64.wrap (64 - n))))
                      (cond (decide (0 ≤ n))
                         (true)
                         (false))
                      (false))
                   (false))
                (false)))
          (true)))
def lanternref01_Down.fns : FuncId → List Value → Option (Bool × Value) := noFns
theorem lanternref01_Down.fnsOK : PureFns Tryz.prog lanternref01_Down.fns := noFnsOK
theorem lanternref01_Down.ev (M : Prims)   (w : LWord) (n : Int) : evP tab M lanternref01_Down.fns noLoops 300 Tryz.f154 [w.val, (.int .i64 n)] = lanternref01_Down.k M   w n (fun r => some (r.val, [])) := by kernel_rfl
theorem lanternref01_Down.k_eq (M : Prims) (w : LWord) (n : Int) (k : LWord → R) : lanternref01_Down.ok M w n = true → lanternref01_Down.k M  w n k = k (lanternref01_Down M w n) := by
  unfold lanternref01_Down.ok lanternref01_Down.k lanternref01_Down
  exact kC (fun _ => rfl) (kC (kC (kC (fun _ => rfl) (kC (fun _ => rfl) (kC (kL (kL (kL (fun _ => rfl)))) (fun _ => rfl)))) (kC (fun _ => rfl) (kC (fun _ => pC rfl rfl) (kC (kC (kL (kL (kL (fun _ => rfl)))) (kL (kL (kL (kL (fun _ => rfl)))))) (fun _ => rfl))))) (kC (kC (kL (kL (kL (fun _ => rfl)))) (kL (kL (kL (kL (fun _ => rfl)))))) (fun _ => rfl)))
theorem lanternref01_Down.call (w : LWord) (n : Int) (h : lanternref01_Down.ok M0 w n = true) : PureOK Tryz.prog 154 [w.val, (.int .i64 n)] ((lanternref01_Down M0 w n).val) :=
  evP_sound (P := Tryz.prog) mixed tabOK lanternref01_Down.fnsOK Tryz.func154 rfl (Λ := noLoops) (c := Tryz.f154.body.getD .skip) rfl (noLoopsOK _) rfl (Nat.zero_le 1) rfl rfl ((lanternref01_Down.ev M0  w n).trans (lanternref01_Down.k_eq M0 w n _ h))
def lanternref01_Down.ph (c154 : LWord → Int → LWord) (c154ok : LWord → Int → Bool) : Ph := fun args => match args with
  | [.agg ⟨[.int .u64 a0_0, .int .u64 a0_1, .int .i64 a0_2, .bool a0_3]⟩, .int .i64 a1_] => some (c154ok (⟨a0_0, a0_1, a0_2, a0_3⟩ : LWord) a1_, (c154 (⟨a0_0, a0_1, a0_2, a0_3⟩ : LWord) a1_).val)
  | _ => none
theorem lanternref01_Down.phOK : PhOK Tryz.prog 154 (lanternref01_Down.ph (lanternref01_Down M0) (lanternref01_Down.ok M0)) := ⟨by
  intro args v h
  unfold lanternref01_Down.ph at h
  split at h
  · rename_i a0_0 a0_1 a0_2 a0_3 a1_
    simp only [Option.some.injEq, Prod.mk.injEq] at h
    obtain ⟨hok, rfl⟩ := h
    exact ⟨rfl, rfl, lanternref01_Down.call (⟨a0_0, a0_1, a0_2, a0_3⟩ : LWord) a1_ hok⟩
  · cases h⟩
def lanternref01_plus.k (_ : Prims) (a : LWord) (b : LWord) (k : LWord → R) : R :=
  let x1 := IntKind.u64.wrap (a.lo + b.lo)
  let x2 := IntKind.u64.wrap (a.hi + b.hi)
  cond a.more
    (cond (decide (x1 < a.lo))
       (k (⟨(IntKind.u64.wrap (x2 + 1)), x1, a.e, true⟩ : LWord))
       (k (⟨x2, x1, a.e, true⟩ : LWord)))
    (cond (decide (x1 < a.lo))
       (k (⟨(IntKind.u64.wrap (x2 + 1)), x1, a.e, b.more⟩ : LWord))
       (k (⟨x2, x1, a.e, b.more⟩ : LWord)))
def lanternref01_plus (_ : Prims) (a : LWord) (b : LWord) : LWord :=
  let x1 := IntKind.u64.wrap (a.lo + b.lo)
  let x2 := IntKind.u64.wrap (a.hi + b.hi)
  cond a.more
    (cond (decide (x1 < a.lo))
       ((⟨(IntKind.u64.wrap (x2 + 1)), x1, a.e, true⟩ : LWord))
       ((⟨x2, x1, a.e, true⟩ : LWord)))
    (cond (decide (x1 < a.lo))
       ((⟨(IntKind.u64.wrap (x2 + 1)), x1, a.e, b.more⟩ : LWord))
       ((⟨x2, x1, a.e, b.more⟩ : LWord)))
def lanternref01_plus.fns : FuncId → List Value → Option (Bool × Value) := noFns
theorem lanternref01_plus.fnsOK : PureFns Tryz.prog lanternref01_plus.fns := noFnsOK
theorem lanternref01_plus.ev (M : Prims)   (a : LWord) (b : LWord) : evP tab M lanternref01_plus.fns noLoops 300 Tryz.f155 [a.val, b.val] = lanternref01_plus.k M   a b (fun r => some (r.val, [])) := by kernel_rfl
theorem lanternref01_plus.k_eq (M : Prims) (a : LWord) (b : LWord) (k : LWord → R) : lanternref01_plus.k M  a b k = k (lanternref01_plus M a b) := by
  unfold lanternref01_plus.k lanternref01_plus
  exact pC (pC rfl rfl) (pC rfl rfl)
theorem lanternref01_plus.call (a : LWord) (b : LWord) : PureOK Tryz.prog 155 [a.val, b.val] ((lanternref01_plus M0 a b).val) :=
  evP_sound (P := Tryz.prog) mixed tabOK lanternref01_plus.fnsOK Tryz.func155 rfl (Λ := noLoops) (c := Tryz.f155.body.getD .skip) rfl (noLoopsOK _) rfl (Nat.zero_le 1) rfl rfl ((lanternref01_plus.ev M0  a b).trans (lanternref01_plus.k_eq M0 a b _))
def lanternref01_plus.ph (c155 : LWord → LWord → LWord) : Ph := fun args => match args with
  | [.agg ⟨[.int .u64 a0_0, .int .u64 a0_1, .int .i64 a0_2, .bool a0_3]⟩, .agg ⟨[.int .u64 a1_0, .int .u64 a1_1, .int .i64 a1_2, .bool a1_3]⟩] => some (true, (c155 (⟨a0_0, a0_1, a0_2, a0_3⟩ : LWord) (⟨a1_0, a1_1, a1_2, a1_3⟩ : LWord)).val)
  | _ => none
theorem lanternref01_plus.phOK : PhOK Tryz.prog 155 (lanternref01_plus.ph (lanternref01_plus M0)) := ⟨by
  intro args v h
  unfold lanternref01_plus.ph at h
  split at h
  · rename_i a0_0 a0_1 a0_2 a0_3 a1_0 a1_1 a1_2 a1_3
    simp only [Option.some.injEq, Prod.mk.injEq, true_and] at h
    subst h
    exact ⟨rfl, rfl, lanternref01_plus.call (⟨a0_0, a0_1, a0_2, a0_3⟩ : LWord) (⟨a1_0, a1_1, a1_2, a1_3⟩ : LWord)⟩
  · cases h⟩
def lanternref01_Most.k (_ : Prims) (c115 : Int → Nat) (k : Nat → R) : R :=
  k (c115 9218868437227405311)
def lanternref01_Most (_ : Prims) : Nat :=
  (f64from 9218868437227405311)
def lanternref01_Most.fns (c115 : Int → Nat) : FuncId → List Value → Option (Bool × Value) := ifId 115 (f64from.ph c115) <| noFns
theorem lanternref01_Most.fnsOK : PureFns Tryz.prog (lanternref01_Most.fns f64from) := ifIdOK f64from.phOK <| noFnsOK
theorem lanternref01_Most.ev (M : Prims) (c115 : Int → Nat)   : evP tab M (lanternref01_Most.fns c115) noLoops 300 Tryz.f184 [] = lanternref01_Most.k M c115   (fun r => some ((.float .f64 r), [])) := by kernel_rfl
theorem lanternref01_Most.k_eq (M : Prims)  (k : Nat → R) : lanternref01_Most.k M f64from  k = k (lanternref01_Most M ) := by
  unfold lanternref01_Most.k lanternref01_Most
  exact rfl
theorem lanternref01_Most.call  : PureOK Tryz.prog 184 [] (.float .f64 (lanternref01_Most M0 )) :=
  evP_sound (P := Tryz.prog) mixed tabOK lanternref01_Most.fnsOK Tryz.func184 rfl (Λ := noLoops) (c := Tryz.f184.body.getD .skip) rfl (noLoopsOK _) rfl (Nat.zero_le 1) rfl rfl ((lanternref01_Most.ev M0 f64from ).trans (lanternref01_Most.k_eq M0  _))
def lanternref01_Most.ph (c184 : Nat) : Ph := fun args => match args with
  | [] => some (true, (.float .f64 (c184)))
  | _ => none
theorem lanternref01_Most.phOK : PhOK Tryz.prog 184 (lanternref01_Most.ph (lanternref01_Most M0)) := ⟨by
  intro args v h
  unfold lanternref01_Most.ph at h
  split at h
  · simp only [Option.some.injEq, Prod.mk.injEq, true_and] at h
    subst h
    exact ⟨rfl, rfl, lanternref01_Most.call ⟩
  · cases h⟩
def lanternref01_power.k (_ : Prims) (c115 : Int → Nat) (e : Int) (k : Nat → R) : R :=
  cond (decide (e ≥ (-1022)))
    (k (c115 (shlV .u64 (IntKind.u64.wrap (IntKind.i64.wrap (e + 1023))) 52)))
    (let x6 := IntKind.i64.wrap (e + 1074)
     cond (decide (0 ≤ x6))
       (k (c115 (shlV .u64 1 x6)))
       (none))
def lanternref01_power (_ : Prims) (e : Int) : Nat :=
  cond (decide (e ≥ (-1022)))
    ((f64from (shlV .u64 (IntKind.u64.wrap (IntKind.i64.wrap (e + 1023))) 52)))
    ((f64from (shlV .u64 1 (IntKind.i64.wrap (e + 1074)))))
def lanternref01_power.ok (_ : Prims) (e : Int) : Bool :=
  cond (decide (e ≥ (-1022)))
    (true)
    (cond (decide (0 ≤ (IntKind.i64.wrap (e + 1074))))
       (true)
       (false))
def lanternref01_power.fns (c115 : Int → Nat) : FuncId → List Value → Option (Bool × Value) := ifId 115 (f64from.ph c115) <| noFns
theorem lanternref01_power.fnsOK : PureFns Tryz.prog (lanternref01_power.fns f64from) := ifIdOK f64from.phOK <| noFnsOK
theorem lanternref01_power.ev (M : Prims) (c115 : Int → Nat)  (e : Int) : evP tab M (lanternref01_power.fns c115) noLoops 300 Tryz.f185 [(.int .i64 e)] = lanternref01_power.k M c115  e (fun r => some ((.float .f64 r), [])) := by kernel_rfl
theorem lanternref01_power.k_eq (M : Prims) (e : Int) (k : Nat → R) : lanternref01_power.ok M e = true → lanternref01_power.k M f64from e k = k (lanternref01_power M e) := by
  unfold lanternref01_power.ok lanternref01_power.k lanternref01_power
  exact kC (fun _ => rfl) (kL (fun _ => rfl))
theorem lanternref01_power.call (e : Int) (h : lanternref01_power.ok M0 e = true) : PureOK Tryz.prog 185 [(.int .i64 e)] (.float .f64 (lanternref01_power M0 e)) :=
  evP_sound (P := Tryz.prog) mixed tabOK lanternref01_power.fnsOK Tryz.func185 rfl (Λ := noLoops) (c := Tryz.f185.body.getD .skip) rfl (noLoopsOK _) rfl (Nat.zero_le 1) rfl rfl ((lanternref01_power.ev M0 f64from e).trans (lanternref01_power.k_eq M0 e _ h))
def lanternref01_power.ph (c185 : Int → Nat) (c185ok : Int → Bool) : Ph := fun args => match args with
  | [.int .i64 a0_] => some (c185ok a0_, (.float .f64 (c185 a0_)))
  | _ => none
theorem lanternref01_power.phOK : PhOK Tryz.prog 185 (lanternref01_power.ph (lanternref01_power M0) (lanternref01_power.ok M0)) := ⟨by
  intro args v h
  unfold lanternref01_power.ph at h
  split at h
  · rename_i a0_
    simp only [Option.some.injEq, Prod.mk.injEq] at h
    obtain ⟨hok, rfl⟩ := h
    exact ⟨rfl, rfl, lanternref01_power.call a0_ hok⟩
  · cases h⟩
def lanternref01_Near.L17.k {ρ : Type} (_ : Prims) (_ : LWord → Int) (_ : LWord → Int → LWord) (_ : LWord → Int → Bool) (_ : Nat) (_ : Int → Nat) (_ : Int → Bool) (_ : Nat) (s : Int × Int × Int × Int × Bool) (kn kx : (Int × Int × Int × Int × Bool) → Option ρ) : Option ρ :=
  cond (decide (s.2.2.2.1 > 971))
    (kn ((shlV .u64 s.1 1), s.2.1, s.2.2.1, (IntKind.i64.wrap (s.2.2.2.1 - 1)), s.2.2.2.2))
    (kx (s.1, s.2.1, s.2.2.1, s.2.2.2.1, s.2.2.2.2))
def lanternref01_Near.L17.step (M : Prims) (s : Int × Int × Int × Int × Bool) : Option (Bool × (Int × Int × Int × Int × Bool)) := lanternref01_Near.L17.k M (lanternref01_Length M) (lanternref01_Down M) (lanternref01_Down.ok M) (lanternref01_Most M) (lanternref01_power M) (lanternref01_power.ok M) (lanternref01_Inf M) s (fun t => some (true, t)) (fun t => some (false, t))
def lanternref01_Near.L17 (M : Prims) (a0 : Int) (a1 : Int) (a2 : Int) (a3 : Int) (a4 : Bool) : Int × Int × Int × Int × Bool := (runL (lanternref01_Near.L17.step M) (60) (a0, a1, a2, a3, a4)).getD (a0, a1, a2, a3, a4)
def lanternref01_Near.L17.ok (M : Prims) (a0 : Int) (a1 : Int) (a2 : Int) (a3 : Int) (a4 : Bool) : Bool := (runL (lanternref01_Near.L17.step M) (60) (a0, a1, a2, a3, a4)).isSome
def lanternref01_Near.L17.H (s : Int × Int × Int × Int × Bool) : Hp := [([.int .u64 s.2.1, .int .u64 s.2.2.1, .int .i64 s.2.2.2.1, .bool s.2.2.2.2], 153)]
def lanternref01_Near.L17.vals (s : Int × Int × Int × Int × Bool) : List (Nat × Value) := [(2, .pointer (some ⟨0, 0, none⟩)), (6, .int .u64 s.1)]
def lanternref01_Near.L17.asgL : List Nat := [59, 60, 61, 62, 63, 6, 64, 65, 66, 67]
noncomputable def lanternref01_Near.L17.body : Code := (nth (loopsOf (Tryz.f172.body.getD .skip)) 0).getD .skip
def lanternref01_Near.L20.k {ρ : Type} (_ : Prims) (_ : LWord → Int) (_ : LWord → Int → LWord) (_ : LWord → Int → Bool) (_ : Nat) (_ : Int → Nat) (_ : Int → Bool) (_ : Nat) (s : Int × Int × Int × Int × Bool) (kn kx : (Int × Int × Int × Int × Bool) → Option ρ) : Option ρ :=
  cond (decide (s.2.2.2.1 < (-1074)))
    (kn ((shrV .u64 s.1 1), s.2.1, s.2.2.1, (IntKind.i64.wrap (s.2.2.2.1 + 1)), s.2.2.2.2))
    (kx (s.1, s.2.1, s.2.2.1, s.2.2.2.1, s.2.2.2.2))
def lanternref01_Near.L20.step (M : Prims) (s : Int × Int × Int × Int × Bool) : Option (Bool × (Int × Int × Int × Int × Bool)) := lanternref01_Near.L20.k M (lanternref01_Length M) (lanternref01_Down M) (lanternref01_Down.ok M) (lanternref01_Most M) (lanternref01_power M) (lanternref01_power.ok M) (lanternref01_Inf M) s (fun t => some (true, t)) (fun t => some (false, t))
def lanternref01_Near.L20 (M : Prims) (a0 : Int) (a1 : Int) (a2 : Int) (a3 : Int) (a4 : Bool) : Int × Int × Int × Int × Bool := (runL (lanternref01_Near.L20.step M) (60) (a0, a1, a2, a3, a4)).getD (a0, a1, a2, a3, a4)
def lanternref01_Near.L20.ok (M : Prims) (a0 : Int) (a1 : Int) (a2 : Int) (a3 : Int) (a4 : Bool) : Bool := (runL (lanternref01_Near.L20.step M) (60) (a0, a1, a2, a3, a4)).isSome
def lanternref01_Near.L20.H (s : Int × Int × Int × Int × Bool) : Hp := [([.int .u64 s.2.1, .int .u64 s.2.2.1, .int .i64 s.2.2.2.1, .bool s.2.2.2.2], 153)]
def lanternref01_Near.L20.vals (s : Int × Int × Int × Int × Bool) : List (Nat × Value) := [(2, .pointer (some ⟨0, 0, none⟩)), (6, .int .u64 s.1)]
def lanternref01_Near.L20.asgL : List Nat := [68, 69, 70, 71, 72, 6, 73, 74, 75, 76]
noncomputable def lanternref01_Near.L20.body : Code := (nth (loopsOf (Tryz.f172.body.getD .skip)) 1).getD .skip
def lanternref01_Near.k (M : Prims) (c151 : LWord → Int) (c154 : LWord → Int → LWord) (c154ok : LWord → Int → Bool) (c184 : Nat) (c185 : Int → Nat) (c185ok : Int → Bool) (c65 : Nat) (l17 : Int → Int → Int → Int → Bool → Int × Int × Int × Int × Bool) (l17ok : Int → Int → Int → Int → Bool → Bool) (l20 : Int → Int → Int → Int → Bool → Int × Int × Int × Int × Bool) (l20ok : Int → Int → Int → Int → Bool → Bool) (w : LWord) (greater : Bool) (k : Nat → R) : R :=
  let x2 := IntKind.i64.wrap ((c151 w) - 53)
  let x6 := cond (decide ((IntKind.i64.wrap ((-1074) - w.e)) > x2)) ((IntKind.i64.wrap ((-1074) - w.e)) : Int) x2
  let x7 := c154 w x6
  cond (c154ok w x6)
    (cond x7.more
       (let x9 := cond greater ((IntKind.u64.wrap (x7.lo + 1)) : Int) x7.lo
        cond ((x9 : Int) == 0)
          (k 0)
          (cond (decide ((IntKind.i64.wrap ((IntKind.i64.wrap ((c151 (⟨0, x9, 0, false⟩ : LWord)) - 1)) + x7.e)) > 1023))
             (cond greater
                (k c65)
                (k c184))
             (cond (decide (x7.e ≥ (-1074)))
                (cond (decide (x7.e ≤ 971))
                   (cond (c185ok x7.e)
                      (k (M.mul (M.ofInt x9) (c185 x7.e)))
                      (none))
                   (let x23 := l17 x9 x7.hi x7.lo x7.e x7.more
                    cond (l17ok x9 x7.hi x7.lo x7.e x7.more)
                      (let x27 := l20 x23.1 x23.2.1 x23.2.2.1 x23.2.2.2.1 x23.2.2.2.2
                       cond (l20ok x23.1 x23.2.1 x23.2.2.1 x23.2.2.2.1 x23.2.2.2.2)
                         (cond (c185ok x27.2.2.2.1)
                            (k (M.mul (M.ofInt x27.1) (c185 x27.2.2.2.1)))
                            (none))
                         (none))
                      (none)))
                (let x31 := l17 x9 x7.hi x7.lo x7.e x7.more
                 cond (l17ok x9 x7.hi x7.lo x7.e x7.more)
                   (let x32 := l20 x31.1 x31.2.1 x31.2.2.1 x31.2.2.2.1 x31.2.2.2.2
                    cond (l20ok x31.1 x31.2.1 x31.2.2.1 x31.2.2.2.1 x31.2.2.2.2)
                      (cond (c185ok x32.2.2.2.1)
                         (k (M.mul (M.ofInt x32.1) (c185 x32.2.2.2.1)))
                         (none))
                      (none))
                   (none)))))
       (let x37 := cond false ((IntKind.u64.wrap (x7.lo + 1)) : Int) x7.lo
        cond ((x37 : Int) == 0)
          (k 0)
          (cond (decide ((IntKind.i64.wrap ((IntKind.i64.wrap ((c151 (⟨0, x37, 0, false⟩ : LWord)) - 1)) + x7.e)) > 1023))
             (cond greater
                (k c65)
                (k c184))
             (cond (decide (x7.e ≥ (-1074)))
                (cond (decide (x7.e ≤ 971))
                   (cond (c185ok x7.e)
                      (k (M.mul (M.ofInt x37) (c185 x7.e)))
                      (none))
                   (let x48 := l17 x37 x7.hi x7.lo x7.e x7.more
                    cond (l17ok x37 x7.hi x7.lo x7.e x7.more)
                      (let x49 := l20 x48.1 x48.2.1 x48.2.2.1 x48.2.2.2.1 x48.2.2.2.2
                       cond (l20ok x48.1 x48.2.1 x48.2.2.1 x48.2.2.2.1 x48.2.2.2.2)
                         (cond (c185ok x49.2.2.2.1)
                            (k (M.mul (M.ofInt x49.1) (c185 x49.2.2.2.1)))
                            (none))
                         (none))
                      (none)))
                (let x53 := l17 x37 x7.hi x7.lo x7.e x7.more
                 cond (l17ok x37 x7.hi x7.lo x7.e x7.more)
                   (let x54 := l20 x53.1 x53.2.1 x53.2.2.1 x53.2.2.2.1 x53.2.2.2.2
                    cond (l20ok x53.1 x53.2.1 x53.2.2.1 x53.2.2.2.1 x53.2.2.2.2)
                      (cond (c185ok x54.2.2.2.1)
                         (k (M.mul (M.ofInt x54.1) (c185 x54.2.2.2.1)))
                         (none))
                      (none))
                   (none))))))
    (none)
def lanternref01_Near (M : Prims) (w : LWord) (greater : Bool) : Nat :=
  let x2 := IntKind.i64.wrap ((lanternref01_Length M w) - 53)
  let x7 := lanternref01_Down M w (cond (decide ((IntKind.i64.wrap ((-1074) - w.e)) > x2)) ((IntKind.i64.wrap ((-1074) - w.e)) : Int) x2)
  cond x7.more
    (let x9 := cond greater ((IntKind.u64.wrap (x7.lo + 1)) : Int) x7.lo
     cond ((x9 : Int) == 0)
       (0)
       (cond (decide ((IntKind.i64.wrap ((IntKind.i64.wrap ((lanternref01_Length M (⟨0, x9, 0, false⟩ : LWord)) - 1)) + x7.e)) > 1023))
          (cond greater
             ((lanternref01_Inf M))
             ((lanternref01_Most M)))
          (cond (decide (x7.e ≥ (-1074)))
             (cond (decide (x7.e ≤ 971))
                ((M.mul (M.ofInt x9) (lanternref01_power M x7.e)))
                (let x23 := lanternref01_Near.L17 M x9 x7.hi x7.lo x7.e x7.more
                 let x27 := lanternref01_Near.L20 M x23.1 x23.2.1 x23.2.2.1 x23.2.2.2.1 x23.2.2.2.2
                 (M.mul (M.ofInt x27.1) (lanternref01_power M x27.2.2.2.1))))
             (let x31 := lanternref01_Near.L17 M x9 x7.hi x7.lo x7.e x7.more
              let x32 := lanternref01_Near.L20 M x31.1 x31.2.1 x31.2.2.1 x31.2.2.2.1 x31.2.2.2.2
              (M.mul (M.ofInt x32.1) (lanternref01_power M x32.2.2.2.1))))))
    (let x37 := cond false ((IntKind.u64.wrap (x7.lo + 1)) : Int) x7.lo
     cond ((x37 : Int) == 0)
       (0)
       (cond (decide ((IntKind.i64.wrap ((IntKind.i64.wrap ((lanternref01_Length M (⟨0, x37, 0, false⟩ : LWord)) - 1)) + x7.e)) > 1023))
          (cond greater
             ((lanternref01_Inf M))
             ((lanternref01_Most M)))
          (cond (decide (x7.e ≥ (-1074)))
             (cond (decide (x7.e ≤ 971))
                ((M.mul (M.ofInt x37) (lanternref01_power M x7.e)))
                (let x48 := lanternref01_Near.L17 M x37 x7.hi x7.lo x7.e x7.more
                 let x49 := lanternref01_Near.L20 M x48.1 x48.2.1 x48.2.2.1 x48.2.2.2.1 x48.2.2.2.2
                 (M.mul (M.ofInt x49.1) (lanternref01_power M x49.2.2.2.1))))
             (let x53 := lanternref01_Near.L17 M x37 x7.hi x7.lo x7.e x7.more
              let x54 := lanternref01_Near.L20 M x53.1 x53.2.1 x53.2.2.1 x53.2.2.2.1 x53.2.2.2.2
              (M.mul (M.ofInt x54.1) (lanternref01_power M x54.2.2.2.1))))))
def lanternref01_Near.ok (M : Prims) (w : LWord) (greater : Bool) : Bool :=
  let x2 := IntKind.i64.wrap ((lanternref01_Length M w) - 53)
  let x6 := cond (decide ((IntKind.i64.wrap ((-1074) - w.e)) > x2)) ((IntKind.i64.wrap ((-1074) - w.e)) : Int) x2
  let x7 := lanternref01_Down M w x6
  cond (lanternref01_Down.ok M w x6)
    (cond x7.more
       (let x9 := cond greater ((IntKind.u64.wrap (x7.lo + 1)) : Int) x7.lo
        cond ((x9 : Int) == 0)
          (true)
          (cond (decide ((IntKind.i64.wrap ((IntKind.i64.wrap ((lanternref01_Length M (⟨0, x9, 0, false⟩ : LWord)) - 1)) + x7.e)) > 1023))
             (true)
             (cond (decide (x7.e ≥ (-1074)))
                (cond (decide (x7.e ≤ 971))
                   (cond (lanternref01_power.ok M x7.e)
                      (true)
                      (false))
                   (let x23 := lanternref01_Near.L17 M x9 x7.hi x7.lo x7.e x7.more
                    cond (lanternref01_Near.L17.ok M x9 x7.hi x7.lo x7.e x7.more)
                      (cond (lanternref01_Near.L20.ok M x23.1 x23.2.1 x23.2.2.1 x23.2.2.2.1 x23.2.2.2.2)
                         (cond (lanternref01_power.ok M (lanternref01_Near.L20 M x23.1 x23.2.1 x23.2.2.1 x23.2.2.2.1 x23.2.2.2.2).2.2.2.1)
                            (true)
                            (false))
                         (false))
                      (false)))
                (let x31 := lanternref01_Near.L17 M x9 x7.hi x7.lo x7.e x7.more
                 cond (lanternref01_Near.L17.ok M x9 x7.hi x7.lo x7.e x7.more)
                   (cond (lanternref01_Near.L20.ok M x31.1 x31.2.1 x31.2.2.1 x31.2.2.2.1 x31.2.2.2.2)
                      (cond (lanternref01_power.ok M (lanternref01_Near.L20 M x31.1 x31.2.1 x31.2.2.1 x31.2.2.2.1 x31.2.2.2.2).2.2.2.1)
                         (true)
                         (false))
                      (false))
                   (false)))))
       (let x37 := cond false ((IntKind.u64.wrap (x7.lo + 1)) : Int) x7.lo
        cond ((x37 : Int) == 0)
          (true)
          (cond (decide ((IntKind.i64.wrap ((IntKind.i64.wrap ((lanternref01_Length M (⟨0, x37, 0, false⟩ : LWord)) - 1)) + x7.e)) > 1023))
             (true)
             (cond (decide (x7.e ≥ (-1074)))
                (cond (decide (x7.e ≤ 971))
                   (cond (lanternref01_power.ok M x7.e)
                      (true)
                      (false))
                   (let x48 := lanternref01_Near.L17 M x37 x7.hi x7.lo x7.e x7.more
                    cond (lanternref01_Near.L17.ok M x37 x7.hi x7.lo x7.e x7.more)
                      (cond (lanternref01_Near.L20.ok M x48.1 x48.2.1 x48.2.2.1 x48.2.2.2.1 x48.2.2.2.2)
                         (cond (lanternref01_power.ok M (lanternref01_Near.L20 M x48.1 x48.2.1 x48.2.2.1 x48.2.2.2.1 x48.2.2.2.2).2.2.2.1)
                            (true)
                            (false))
                         (false))
                      (false)))
                (let x53 := lanternref01_Near.L17 M x37 x7.hi x7.lo x7.e x7.more
                 cond (lanternref01_Near.L17.ok M x37 x7.hi x7.lo x7.e x7.more)
                   (cond (lanternref01_Near.L20.ok M x53.1 x53.2.1 x53.2.2.1 x53.2.2.2.1 x53.2.2.2.2)
                      (cond (lanternref01_power.ok M (lanternref01_Near.L20 M x53.1 x53.2.1 x53.2.2.1 x53.2.2.2.1 x53.2.2.2.2).2.2.2.1)
                         (true)
                         (false))
                      (false))
                   (false))))))
    (false)
def lanternref01_Near.fns (c151 : LWord → Int) (c154 : LWord → Int → LWord) (c154ok : LWord → Int → Bool) (c184 : Nat) (c185 : Int → Nat) (c185ok : Int → Bool) (c65 : Nat) : FuncId → List Value → Option (Bool × Value) := ifId 151 (lanternref01_Length.ph c151) <| ifId 154 (lanternref01_Down.ph c154 c154ok) <| ifId 184 (lanternref01_Most.ph c184) <| ifId 185 (lanternref01_power.ph c185 c185ok) <| ifId 65 (lanternref01_Inf.ph c65) <| noFns
def lanternref01_Near.L17.at (l : Int → Int → Int → Int → Bool → Int × Int × Int × Int × Bool) (lok : Int → Int → Int → Int → Bool → Bool) (e : Env) (h : Hp) : Option (Bool × Nat × Env × Hp) :=
  match keysLt 83 e, getE e 2, getE e 6, h with
  | true, .pointer (some ⟨0, 0, none⟩), .int .u64 a0, [([.int .u64 a1, .int .u64 a2, .int .i64 a3, .bool a4], 153)] => some (lok a0 a1 a2 a3 a4, 0, mkE (lanternref01_Near.L17.vals (l a0 a1 a2 a3 a4)) lanternref01_Near.L17.asgL (getE e) (upTo 83 0), (lanternref01_Near.L17.H (l a0 a1 a2 a3 a4)))
  | _, _, _, _ => none
def lanternref01_Near.L20.at (l : Int → Int → Int → Int → Bool → Int × Int × Int × Int × Bool) (lok : Int → Int → Int → Int → Bool → Bool) (e : Env) (h : Hp) : Option (Bool × Nat × Env × Hp) :=
  match keysLt 83 e, getE e 2, getE e 6, h with
  | true, .pointer (some ⟨0, 0, none⟩), .int .u64 a0, [([.int .u64 a1, .int .u64 a2, .int .i64 a3, .bool a4], 153)] => some (lok a0 a1 a2 a3 a4, 2, mkE (lanternref01_Near.L20.vals (l a0 a1 a2 a3 a4)) lanternref01_Near.L20.asgL (getE e) (upTo 83 0), (lanternref01_Near.L20.H (l a0 a1 a2 a3 a4)))
  | _, _, _, _ => none
def lanternref01_Near.lps (l17 : Int → Int → Int → Int → Bool → Int × Int × Int × Int × Bool) (l17ok : Int → Int → Int → Int → Bool → Bool) (l20 : Int → Int → Int → Int → Bool → Int × Int × Int × Int × Bool) (l20ok : Int → Int → Int → Int → Bool → Bool) : Loops := fun key e h => match key with
  | 17 => lanternref01_Near.L17.at l17 l17ok e h
  | 20 => lanternref01_Near.L20.at l20 l20ok e h
  | 1000003 => some (true, 0, e, h)
  | 1000007 => some (true, 0, e, h)
  | _ => none
theorem lanternref01_Near.L17.ev (M : Prims) (c151 : LWord → Int) (c154 : LWord → Int → LWord) (c154ok : LWord → Int → Bool) (c184 : Nat) (c185 : Int → Nat) (c185ok : Int → Bool) (c65 : Nat) (l17 : Int → Int → Int → Int → Bool → Int × Int × Int × Int × Bool) (l17ok : Int → Int → Int → Int → Bool → Bool) (l20 : Int → Int → Int → Int → Bool → Int × Int × Int × Int × Bool) (l20ok : Int → Int → Int → Int → Bool → Bool) (b : Nat → Value) (s : Int × Int × Int × Int × Bool) : ev tab M (pureFns (lanternref01_Near.fns c151 c154 c154ok c184 c185 c185ok c65)) (lanternref01_Near.lps l17 l17ok l20 l20ok) true 83 60 lanternref01_Near.L17.body (mkE (lanternref01_Near.L17.vals s) lanternref01_Near.L17.asgL b (upTo 83 0)) (lanternref01_Near.L17.H s) (fun o e h => some (o, getEs e [2, 6], h)) = lanternref01_Near.L17.k M c151 c154 c154ok c184 c185 c185ok c65 s (fun t => some (.norm, sndL (lanternref01_Near.L17.vals t), (lanternref01_Near.L17.H t))) (fun t => some (.exit 0, sndL (lanternref01_Near.L17.vals t), (lanternref01_Near.L17.H t))) := by kernel_rfl
theorem lanternref01_Near.L17.nat {ρ : Type} (M : Prims) (s s2 : Int × Int × Int × Int × Bool) (g : Bool) (kn kx : (Int × Int × Int × Int × Bool) → Option ρ) : lanternref01_Near.L17.step M s = some (g, s2) → lanternref01_Near.L17.k M (lanternref01_Length M) (lanternref01_Down M) (lanternref01_Down.ok M) (lanternref01_Most M) (lanternref01_power M) (lanternref01_power.ok M) (lanternref01_Inf M) s kn kx = cond g (kn s2) (kx s2) := by
  unfold lanternref01_Near.L17.step lanternref01_Near.L17.k
  exact nC nN nX
theorem lanternref01_Near.L20.ev (M : Prims) (c151 : LWord → Int) (c154 : LWord → Int → LWord) (c154ok : LWord → Int → Bool) (c184 : Nat) (c185 : Int → Nat) (c185ok : Int → Bool) (c65 : Nat) (l17 : Int → Int → Int → Int → Bool → Int × Int × Int × Int × Bool) (l17ok : Int → Int → Int → Int → Bool → Bool) (l20 : Int → Int → Int → Int → Bool → Int × Int × Int × Int × Bool) (l20ok : Int → Int → Int → Int → Bool → Bool) (b : Nat → Value) (s : Int × Int × Int × Int × Bool) : ev tab M (pureFns (lanternref01_Near.fns c151 c154 c154ok c184 c185 c185ok c65)) (lanternref01_Near.lps l17 l17ok l20 l20ok) true 83 60 lanternref01_Near.L20.body (mkE (lanternref01_Near.L20.vals s) lanternref01_Near.L20.asgL b (upTo 83 0)) (lanternref01_Near.L20.H s) (fun o e h => some (o, getEs e [2, 6], h)) = lanternref01_Near.L20.k M c151 c154 c154ok c184 c185 c185ok c65 s (fun t => some (.norm, sndL (lanternref01_Near.L20.vals t), (lanternref01_Near.L20.H t))) (fun t => some (.exit 2, sndL (lanternref01_Near.L20.vals t), (lanternref01_Near.L20.H t))) := by kernel_rfl
theorem lanternref01_Near.L20.nat {ρ : Type} (M : Prims) (s s2 : Int × Int × Int × Int × Bool) (g : Bool) (kn kx : (Int × Int × Int × Int × Bool) → Option ρ) : lanternref01_Near.L20.step M s = some (g, s2) → lanternref01_Near.L20.k M (lanternref01_Length M) (lanternref01_Down M) (lanternref01_Down.ok M) (lanternref01_Most M) (lanternref01_power M) (lanternref01_power.ok M) (lanternref01_Inf M) s kn kx = cond g (kn s2) (kx s2) := by
  unfold lanternref01_Near.L20.step lanternref01_Near.L20.k
  exact nC nN nX
theorem lanternref01_Near.fnsOK : PureFns Tryz.prog (lanternref01_Near.fns (lanternref01_Length M0) (lanternref01_Down M0) (lanternref01_Down.ok M0) (lanternref01_Most M0) (lanternref01_power M0) (lanternref01_power.ok M0) (lanternref01_Inf M0)) := ifIdOK lanternref01_Length.phOK <| ifIdOK lanternref01_Down.phOK <| ifIdOK lanternref01_Most.phOK <| ifIdOK lanternref01_power.phOK <| ifIdOK lanternref01_Inf.phOK <| noFnsOK
theorem lanternref01_Near.L17.isOK : LoopOK Tryz.prog 83 (lanternref01_Near.lps (lanternref01_Near.L17 M0) (lanternref01_Near.L17.ok M0) (lanternref01_Near.L20 M0) (lanternref01_Near.L20.ok M0)) lanternref01_Near.L17.body := by
  intro e h x e2 h2 hL0
  rw [show keyOf lanternref01_Near.L17.body = 17 from by kernel_rfl] at hL0
  have hL : lanternref01_Near.L17.at (lanternref01_Near.L17 M0) (lanternref01_Near.L17.ok M0) e h = some (true, x, e2, h2) := hL0
  unfold lanternref01_Near.L17.at at hL
  split at hL
  · rename_i a0 a1 a2 a3 a4 hk e0 e1
    simp only [Option.some.injEq, Prod.mk.injEq] at hL
    obtain ⟨hok, rfl, rfl, rfl⟩ := hL
    obtain ⟨s2, hs⟩ := Option.isSome_iff_exists.1 hok
    unfold lanternref01_Near.L17
    rw [hs]
    refine loop_rounds_mem (P := Tryz.prog) (T := tab) (Φ := pureFns (lanternref01_Near.fns (lanternref01_Length M0) (lanternref01_Down M0) (lanternref01_Down.ok M0) (lanternref01_Most M0) (lanternref01_power M0) (lanternref01_power.ok M0) (lanternref01_Inf M0))) (pc := true) (Λ := (lanternref01_Near.lps (lanternref01_Near.L17 M0) (lanternref01_Near.L17.ok M0) (lanternref01_Near.L20 M0) (lanternref01_Near.L20.ok M0))) (setting_pure (P := Tryz.prog) mixed tabOK lanternref01_Near.fnsOK) (c := lanternref01_Near.L17.body) (by rw [show loopsOf lanternref01_Near.L17.body = [] from by kernel_rfl]; exact trivial) (by rw [show loopsOf lanternref01_Near.L17.body = [] from by kernel_rfl]; exact trivial) (lanternref01_Near.L17.step M0) lanternref01_Near.L17.vals lanternref01_Near.L17.H [2, 6] (fun _ => rfl) 0 60 (asg := lanternref01_Near.L17.asgL) (by kernel_rfl) ?_ (by kernel_rfl) _ (a0, a1, a2, a3, a4) _ e hs hk ?_
    · intro b s s2 g hst
      refine (lanternref01_Near.L17.ev M0 (lanternref01_Length M0) (lanternref01_Down M0) (lanternref01_Down.ok M0) (lanternref01_Most M0) (lanternref01_power M0) (lanternref01_power.ok M0) (lanternref01_Inf M0) (lanternref01_Near.L17 M0) (lanternref01_Near.L17.ok M0) (lanternref01_Near.L20 M0) (lanternref01_Near.L20.ok M0) b s).trans ((lanternref01_Near.L17.nat M0 s s2 g _ _ hst).trans ?_)
      cases g <;> rfl
    · intro p hp
      simp only [lanternref01_Near.L17.vals, List.mem_cons, List.not_mem_nil, or_false] at hp
      rcases hp with rfl | rfl <;> assumption
  · cases hL
theorem lanternref01_Near.L20.isOK : LoopOK Tryz.prog 83 (lanternref01_Near.lps (lanternref01_Near.L17 M0) (lanternref01_Near.L17.ok M0) (lanternref01_Near.L20 M0) (lanternref01_Near.L20.ok M0)) lanternref01_Near.L20.body := by
  intro e h x e2 h2 hL0
  rw [show keyOf lanternref01_Near.L20.body = 20 from by kernel_rfl] at hL0
  have hL : lanternref01_Near.L20.at (lanternref01_Near.L20 M0) (lanternref01_Near.L20.ok M0) e h = some (true, x, e2, h2) := hL0
  unfold lanternref01_Near.L20.at at hL
  split at hL
  · rename_i a0 a1 a2 a3 a4 hk e0 e1
    simp only [Option.some.injEq, Prod.mk.injEq] at hL
    obtain ⟨hok, rfl, rfl, rfl⟩ := hL
    obtain ⟨s2, hs⟩ := Option.isSome_iff_exists.1 hok
    unfold lanternref01_Near.L20
    rw [hs]
    refine loop_rounds_mem (P := Tryz.prog) (T := tab) (Φ := pureFns (lanternref01_Near.fns (lanternref01_Length M0) (lanternref01_Down M0) (lanternref01_Down.ok M0) (lanternref01_Most M0) (lanternref01_power M0) (lanternref01_power.ok M0) (lanternref01_Inf M0))) (pc := true) (Λ := (lanternref01_Near.lps (lanternref01_Near.L17 M0) (lanternref01_Near.L17.ok M0) (lanternref01_Near.L20 M0) (lanternref01_Near.L20.ok M0))) (setting_pure (P := Tryz.prog) mixed tabOK lanternref01_Near.fnsOK) (c := lanternref01_Near.L20.body) (by rw [show loopsOf lanternref01_Near.L20.body = [] from by kernel_rfl]; exact trivial) (by rw [show loopsOf lanternref01_Near.L20.body = [] from by kernel_rfl]; exact trivial) (lanternref01_Near.L20.step M0) lanternref01_Near.L20.vals lanternref01_Near.L20.H [2, 6] (fun _ => rfl) 2 60 (asg := lanternref01_Near.L20.asgL) (by kernel_rfl) ?_ (by kernel_rfl) _ (a0, a1, a2, a3, a4) _ e hs hk ?_
    · intro b s s2 g hst
      refine (lanternref01_Near.L20.ev M0 (lanternref01_Length M0) (lanternref01_Down M0) (lanternref01_Down.ok M0) (lanternref01_Most M0) (lanternref01_power M0) (lanternref01_power.ok M0) (lanternref01_Inf M0) (lanternref01_Near.L17 M0) (lanternref01_Near.L17.ok M0) (lanternref01_Near.L20 M0) (lanternref01_Near.L20.ok M0) b s).trans ((lanternref01_Near.L20.nat M0 s s2 g _ _ hst).trans ?_)
      cases g <;> rfl
    · intro p hp
      simp only [lanternref01_Near.L20.vals, List.mem_cons, List.not_mem_nil, or_false] at hp
      rcases hp with rfl | rfl <;> assumption
  · cases hL
theorem lanternref01_Near.lpsOK : LoopsOK Tryz.prog 83 (lanternref01_Near.lps (lanternref01_Near.L17 M0) (lanternref01_Near.L17.ok M0) (lanternref01_Near.L20 M0) (lanternref01_Near.L20.ok M0)) (loopsOf (Tryz.f172.body.getD .skip)) := by
  rw [show loopsOf (Tryz.f172.body.getD .skip) = [lanternref01_Near.L17.body, lanternref01_Near.L20.body] from by kernel_rfl]
  exact ⟨lanternref01_Near.L17.isOK, lanternref01_Near.L20.isOK, trivial⟩
theorem lanternref01_Near.ev (M : Prims) (c151 : LWord → Int) (c154 : LWord → Int → LWord) (c154ok : LWord → Int → Bool) (c184 : Nat) (c185 : Int → Nat) (c185ok : Int → Bool) (c65 : Nat) (l17 : Int → Int → Int → Int → Bool → Int × Int × Int × Int × Bool) (l17ok : Int → Int → Int → Int → Bool → Bool) (l20 : Int → Int → Int → Int → Bool → Int × Int × Int × Int × Bool) (l20ok : Int → Int → Int → Int → Bool → Bool) (w : LWord) (greater : Bool) : evP tab M (lanternref01_Near.fns c151 c154 c154ok c184 c185 c185ok c65) (lanternref01_Near.lps l17 l17ok l20 l20ok) 300 Tryz.f172 [w.val, (.bool greater)] = lanternref01_Near.k M c151 c154 c154ok c184 c185 c185ok c65 l17 l17ok l20 l20ok w greater (fun r => some ((.float .f64 r), [])) := by kernel_rfl
theorem lanternref01_Near.k_eq (M : Prims) (w : LWord) (greater : Bool) (k : Nat → R) : lanternref01_Near.ok M w greater = true → lanternref01_Near.k M (lanternref01_Length M) (lanternref01_Down M) (lanternref01_Down.ok M) (lanternref01_Most M) (lanternref01_power M) (lanternref01_power.ok M) (lanternref01_Inf M) (lanternref01_Near.L17 M) (lanternref01_Near.L17.ok M) (lanternref01_Near.L20 M) (lanternref01_Near.L20.ok M) w greater k = k (lanternref01_Near M w greater) := by
  unfold lanternref01_Near.ok lanternref01_Near.k lanternref01_Near
  exact kL (kC (kC (fun _ => rfl) (kC (fun _ => pC rfl rfl) (kC (kC (kL (fun _ => rfl)) (kL (kL (kL (fun _ => rfl))))) (kL (kL (kL (fun _ => rfl))))))) (kC (fun _ => rfl) (kC (fun _ => pC rfl rfl) (kC (kC (kL (fun _ => rfl)) (kL (kL (kL (fun _ => rfl))))) (kL (kL (kL (fun _ => rfl))))))))
theorem lanternref01_Near.call (w : LWord) (greater : Bool) (h : lanternref01_Near.ok M0 w greater = true) : PureOK Tryz.prog 172 [w.val, (.bool greater)] (.float .f64 (lanternref01_Near M0 w greater)) :=
  evP_sound (P := Tryz.prog) mixed tabOK lanternref01_Near.fnsOK Tryz.func172 rfl (Λ := (lanternref01_Near.lps (lanternref01_Near.L17 M0) (lanternref01_Near.L17.ok M0) (lanternref01_Near.L20 M0) (lanternref01_Near.L20.ok M0))) (c := Tryz.f172.body.getD .skip) rfl lanternref01_Near.lpsOK rfl (Nat.zero_le 1) rfl rfl ((lanternref01_Near.ev M0 (lanternref01_Length M0) (lanternref01_Down M0) (lanternref01_Down.ok M0) (lanternref01_Most M0) (lanternref01_power M0) (lanternref01_power.ok M0) (lanternref01_Inf M0) (lanternref01_Near.L17 M0) (lanternref01_Near.L17.ok M0) (lanternref01_Near.L20 M0) (lanternref01_Near.L20.ok M0) w greater).trans (lanternref01_Near.k_eq M0 w greater _ h))
def lanternref01_Near.ph (c172 : LWord → Bool → Nat) (c172ok : LWord → Bool → Bool) : Ph := fun args => match args with
  | [.agg ⟨[.int .u64 a0_0, .int .u64 a0_1, .int .i64 a0_2, .bool a0_3]⟩, .bool a1_] => some (c172ok (⟨a0_0, a0_1, a0_2, a0_3⟩ : LWord) a1_, (.float .f64 (c172 (⟨a0_0, a0_1, a0_2, a0_3⟩ : LWord) a1_)))
  | _ => none
theorem lanternref01_Near.phOK : PhOK Tryz.prog 172 (lanternref01_Near.ph (lanternref01_Near M0) (lanternref01_Near.ok M0)) := ⟨by
  intro args v h
  unfold lanternref01_Near.ph at h
  split at h
  · rename_i a0_0 a0_1 a0_2 a0_3 a1_
    simp only [Option.some.injEq, Prod.mk.injEq] at h
    obtain ⟨hok, rfl⟩ := h
    exact ⟨rfl, rfl, lanternref01_Near.call (⟨a0_0, a0_1, a0_2, a0_3⟩ : LWord) a1_ hok⟩
  · cases h⟩
def lanternref01_To.k (M : Prims) (c101 : Nat → Nat) (c172 : LWord → Bool → Nat) (c172ok : LWord → Bool → Bool) (w : LWord) (neg : Bool) (down : Bool) (k : Nat → R) : R :=
  let x1 := neg == down
  let x2 := c172 w x1
  cond (c172ok w x1)
    (cond neg
       (k (c101 (M.sub 0 x2)))
       (k x2))
    (none)
def lanternref01_To (M : Prims) (w : LWord) (neg : Bool) (down : Bool) : Nat :=
  let x2 := lanternref01_Near M w (neg == down)
  cond neg
    ((lanternref01_Zeroed M (M.sub 0 x2)))
    (x2)
def lanternref01_To.ok (M : Prims) (w : LWord) (neg : Bool) (down : Bool) : Bool :=
  cond (lanternref01_Near.ok M w (neg == down))
    (true)
    (false)
def lanternref01_To.fns (c101 : Nat → Nat) (c172 : LWord → Bool → Nat) (c172ok : LWord → Bool → Bool) : FuncId → List Value → Option (Bool × Value) := ifId 101 (lanternref01_Zeroed.ph c101) <| ifId 172 (lanternref01_Near.ph c172 c172ok) <| noFns
theorem lanternref01_To.fnsOK : PureFns Tryz.prog (lanternref01_To.fns (lanternref01_Zeroed M0) (lanternref01_Near M0) (lanternref01_Near.ok M0)) := ifIdOK lanternref01_Zeroed.phOK <| ifIdOK lanternref01_Near.phOK <| noFnsOK
theorem lanternref01_To.ev (M : Prims) (c101 : Nat → Nat) (c172 : LWord → Bool → Nat) (c172ok : LWord → Bool → Bool)  (w : LWord) (neg : Bool) (down : Bool) : evP tab M (lanternref01_To.fns c101 c172 c172ok) noLoops 300 Tryz.f146 [w.val, (.bool neg), (.bool down)] = lanternref01_To.k M c101 c172 c172ok  w neg down (fun r => some ((.float .f64 r), [])) := by kernel_rfl
theorem lanternref01_To.k_eq (M : Prims) (w : LWord) (neg : Bool) (down : Bool) (k : Nat → R) : lanternref01_To.ok M w neg down = true → lanternref01_To.k M (lanternref01_Zeroed M) (lanternref01_Near M) (lanternref01_Near.ok M) w neg down k = k (lanternref01_To M w neg down) := by
  unfold lanternref01_To.ok lanternref01_To.k lanternref01_To
  exact kL (fun _ => pC rfl rfl)
theorem lanternref01_To.call (w : LWord) (neg : Bool) (down : Bool) (h : lanternref01_To.ok M0 w neg down = true) : PureOK Tryz.prog 146 [w.val, (.bool neg), (.bool down)] (.float .f64 (lanternref01_To M0 w neg down)) :=
  evP_sound (P := Tryz.prog) mixed tabOK lanternref01_To.fnsOK Tryz.func146 rfl (Λ := noLoops) (c := Tryz.f146.body.getD .skip) rfl (noLoopsOK _) rfl (Nat.zero_le 1) rfl rfl ((lanternref01_To.ev M0 (lanternref01_Zeroed M0) (lanternref01_Near M0) (lanternref01_Near.ok M0) w neg down).trans (lanternref01_To.k_eq M0 w neg down _ h))
def lanternref01_To.ph (c146 : LWord → Bool → Bool → Nat) (c146ok : LWord → Bool → Bool → Bool) : Ph := fun args => match args with
  | [.agg ⟨[.int .u64 a0_0, .int .u64 a0_1, .int .i64 a0_2, .bool a0_3]⟩, .bool a1_, .bool a2_] => some (c146ok (⟨a0_0, a0_1, a0_2, a0_3⟩ : LWord) a1_ a2_, (.float .f64 (c146 (⟨a0_0, a0_1, a0_2, a0_3⟩ : LWord) a1_ a2_)))
  | _ => none
theorem lanternref01_To.phOK : PhOK Tryz.prog 146 (lanternref01_To.ph (lanternref01_To M0) (lanternref01_To.ok M0)) := ⟨by
  intro args v h
  unfold lanternref01_To.ph at h
  split at h
  · rename_i a0_0 a0_1 a0_2 a0_3 a1_ a2_
    simp only [Option.some.injEq, Prod.mk.injEq] at h
    obtain ⟨hok, rfl⟩ := h
    exact ⟨rfl, rfl, lanternref01_To.call (⟨a0_0, a0_1, a0_2, a0_3⟩ : LWord) a1_ a2_ hok⟩
  · cases h⟩
def lanternref01_below.k (_ : Prims) (a : LWord) (b : LWord) (k : Bool → R) : R :=
  cond (decide (a.hi < b.hi))
    (k true)
    (cond ((a.hi : Int) == b.hi)
       (k (decide (a.lo < b.lo)))
       (k false))
def lanternref01_below (_ : Prims) (a : LWord) (b : LWord) : Bool :=
  cond (decide (a.hi < b.hi))
    (true)
    (cond ((a.hi : Int) == b.hi)
       ((decide (a.lo < b.lo)))
       (false))
def lanternref01_below.fns : FuncId → List Value → Option (Bool × Value) := noFns
theorem lanternref01_below.fnsOK : PureFns Tryz.prog lanternref01_below.fns := noFnsOK
theorem lanternref01_below.ev (M : Prims)   (a : LWord) (b : LWord) : evP tab M lanternref01_below.fns noLoops 300 Tryz.f152 [a.val, b.val] = lanternref01_below.k M   a b (fun r => some ((.bool r), [])) := by kernel_rfl
theorem lanternref01_below.k_eq (M : Prims) (a : LWord) (b : LWord) (k : Bool → R) : lanternref01_below.k M  a b k = k (lanternref01_below M a b) := by
  unfold lanternref01_below.k lanternref01_below
  exact pC rfl (pC rfl rfl)
theorem lanternref01_below.call (a : LWord) (b : LWord) : PureOK Tryz.prog 152 [a.val, b.val] (.bool (lanternref01_below M0 a b)) :=
  evP_sound (P := Tryz.prog) mixed tabOK lanternref01_below.fnsOK Tryz.func152 rfl (Λ := noLoops) (c := Tryz.f152.body.getD .skip) rfl (noLoopsOK _) rfl (Nat.zero_le 1) rfl rfl ((lanternref01_below.ev M0  a b).trans (lanternref01_below.k_eq M0 a b _))
def lanternref01_below.ph (c152 : LWord → LWord → Bool) : Ph := fun args => match args with
  | [.agg ⟨[.int .u64 a0_0, .int .u64 a0_1, .int .i64 a0_2, .bool a0_3]⟩, .agg ⟨[.int .u64 a1_0, .int .u64 a1_1, .int .i64 a1_2, .bool a1_3]⟩] => some (true, (.bool (c152 (⟨a0_0, a0_1, a0_2, a0_3⟩ : LWord) (⟨a1_0, a1_1, a1_2, a1_3⟩ : LWord))))
  | _ => none
theorem lanternref01_below.phOK : PhOK Tryz.prog 152 (lanternref01_below.ph (lanternref01_below M0)) := ⟨by
  intro args v h
  unfold lanternref01_below.ph at h
  split at h
  · rename_i a0_0 a0_1 a0_2 a0_3 a1_0 a1_1 a1_2 a1_3
    simp only [Option.some.injEq, Prod.mk.injEq, true_and] at h
    subst h
    exact ⟨rfl, rfl, lanternref01_below.call (⟨a0_0, a0_1, a0_2, a0_3⟩ : LWord) (⟨a1_0, a1_1, a1_2, a1_3⟩ : LWord)⟩
  · cases h⟩
def lanternref01_minus.k (_ : Prims) (a : LWord) (b : LWord) (k : LWord → R) : R :=
  let x1 := IntKind.u64.wrap (a.lo - b.lo)
  let x2 := IntKind.u64.wrap (a.hi - b.hi)
  cond (decide (a.lo < b.lo))
    (k (⟨(IntKind.u64.wrap (x2 - 1)), x1, a.e, false⟩ : LWord))
    (k (⟨x2, x1, a.e, false⟩ : LWord))
def lanternref01_minus (_ : Prims) (a : LWord) (b : LWord) : LWord :=
  let x1 := IntKind.u64.wrap (a.lo - b.lo)
  let x2 := IntKind.u64.wrap (a.hi - b.hi)
  cond (decide (a.lo < b.lo))
    ((⟨(IntKind.u64.wrap (x2 - 1)), x1, a.e, false⟩ : LWord))
    ((⟨x2, x1, a.e, false⟩ : LWord))
def lanternref01_minus.fns : FuncId → List Value → Option (Bool × Value) := noFns
theorem lanternref01_minus.fnsOK : PureFns Tryz.prog lanternref01_minus.fns := noFnsOK
theorem lanternref01_minus.ev (M : Prims)   (a : LWord) (b : LWord) : evP tab M lanternref01_minus.fns noLoops 300 Tryz.f156 [a.val, b.val] = lanternref01_minus.k M   a b (fun r => some (r.val, [])) := by kernel_rfl
theorem lanternref01_minus.k_eq (M : Prims) (a : LWord) (b : LWord) (k : LWord → R) : lanternref01_minus.k M  a b k = k (lanternref01_minus M a b) := by
  unfold lanternref01_minus.k lanternref01_minus
  exact pC rfl rfl
theorem lanternref01_minus.call (a : LWord) (b : LWord) : PureOK Tryz.prog 156 [a.val, b.val] ((lanternref01_minus M0 a b).val) :=
  evP_sound (P := Tryz.prog) mixed tabOK lanternref01_minus.fnsOK Tryz.func156 rfl (Λ := noLoops) (c := Tryz.f156.body.getD .skip) rfl (noLoopsOK _) rfl (Nat.zero_le 1) rfl rfl ((lanternref01_minus.ev M0  a b).trans (lanternref01_minus.k_eq M0 a b _))
def lanternref01_minus.ph (c156 : LWord → LWord → LWord) : Ph := fun args => match args with
  | [.agg ⟨[.int .u64 a0_0, .int .u64 a0_1, .int .i64 a0_2, .bool a0_3]⟩, .agg ⟨[.int .u64 a1_0, .int .u64 a1_1, .int .i64 a1_2, .bool a1_3]⟩] => some (true, (c156 (⟨a0_0, a0_1, a0_2, a0_3⟩ : LWord) (⟨a1_0, a1_1, a1_2, a1_3⟩ : LWord)).val)
  | _ => none
theorem lanternref01_minus.phOK : PhOK Tryz.prog 156 (lanternref01_minus.ph (lanternref01_minus M0)) := ⟨by
  intro args v h
  unfold lanternref01_minus.ph at h
  split at h
  · rename_i a0_0 a0_1 a0_2 a0_3 a1_0 a1_1 a1_2 a1_3
    simp only [Option.some.injEq, Prod.mk.injEq, true_and] at h
    subst h
    exact ⟨rfl, rfl, lanternref01_minus.call (⟨a0_0, a0_1, a0_2, a0_3⟩ : LWord) (⟨a1_0, a1_1, a1_2, a1_3⟩ : LWord)⟩
  · cases h⟩
end Go.Lan

namespace Go.Lan
open Go.Proofs
def lanternref01_Add.k (M : Prims) (c100 : Nat → Bool) (c101 : Nat → Nat) (c144 : Nat → LWord × Bool) (c144ok : Nat → Bool) (c146 : LWord → Bool → Bool → Nat) (c146ok : LWord → Bool → Bool → Bool) (c150 : LWord → Int → LWord) (c150ok : LWord → Int → Bool) (c151 : LWord → Int) (c152 : LWord → LWord → Bool) (c154 : LWord → Int → LWord) (c154ok : LWord → Int → Bool) (c155 : LWord → LWord → LWord) (c156 : LWord → LWord → LWord) (x : Nat) (y : Nat) (down : Bool) (k : Nat × Int → R) : R :=
  cond (!(c100 x))
    (k (0, 10))
    (cond (!(c100 y))
       (k (0, 10))
       (cond (M.eq y 0)
          (k ((c101 x), 0))
          (cond (M.eq x 0)
             (k (y, 0))
             (let x8 := c144 x
              cond (c144ok x)
                (let x9 := c144 y
                 cond (c144ok y)
                   (cond (decide ((IntKind.i64.wrap ((c151 x8.1) + x8.1.e)) < (IntKind.i64.wrap ((c151 x9.1) + x9.1.e))))
                      (let x16 := IntKind.i64.wrap (126 - (c151 x9.1))
                       let x17 := c150 x9.1 x16
                       cond (c150ok x9.1 x16)
                         (cond (decide (x8.1.e ≥ x17.e))
                            (let x19 := IntKind.i64.wrap (x8.1.e - x17.e)
                             let x20 := c150 x8.1 x19
                             cond (c150ok x8.1 x19)
                               (cond (x9.2 == x8.2)
                                  (let x22 := c155 x17 x20
                                   cond (c146ok x22 x9.2 down)
                                     (k ((c146 x22 x9.2 down), 0))
                                     (none))
                                  (cond (!x20.more)
                                     (cond (c152 x17 x20)
                                        (let x26 := c156 x20 x17
                                         cond (c146ok x26 x8.2 down)
                                           (k ((c146 x26 x8.2 down), 0))
                                           (none))
                                        (let x28 := c156 x17 x20
                                         cond x20.more
                                           (let x29 := c156 x28 (⟨0, 1, 0, false⟩ : LWord)
                                            cond (c146ok (⟨x29.hi, x29.lo, x17.e, true⟩ : LWord) x9.2 down)
                                              (k ((c146 (⟨x29.hi, x29.lo, x17.e, true⟩ : LWord) x9.2 down), 0))
                                              (none))
                                           (cond (c146ok x28 x9.2 down)
                                              (k ((c146 x28 x9.2 down), 0))
                                              (none))))
                                     (let x32 := c156 x17 x20
                                      cond x20.more
                                        (let x33 := c156 x32 (⟨0, 1, 0, false⟩ : LWord)
                                         cond (c146ok (⟨x33.hi, x33.lo, x17.e, true⟩ : LWord) x9.2 down)
                                           (k ((c146 (⟨x33.hi, x33.lo, x17.e, true⟩ : LWord) x9.2 down), 0))
                                           (none))
                                        (cond (c146ok x32 x9.2 down)
                                           (k ((c146 x32 x9.2 down), 0))
                                           (none)))))
                               (none))
                            (let x36 := IntKind.i64.wrap (x17.e - x8.1.e)
                             let x37 := c154 x8.1 x36
                             cond (c154ok x8.1 x36)
                               (cond (x9.2 == x8.2)
                                  (let x39 := c155 x17 x37
                                   cond (c146ok x39 x9.2 down)
                                     (k ((c146 x39 x9.2 down), 0))
                                     (none))
                                  (cond (!x37.more)
                                     (cond (c152 x17 x37)
                                        (let x43 := c156 x37 x17
                                         cond (c146ok x43 x8.2 down)
                                           (k ((c146 x43 x8.2 down), 0))
                                           (none))
                                        (let x45 := c156 x17 x37
                                         cond x37.more
                                           (let x46 := c156 x45 (⟨0, 1, 0, false⟩ : LWord)
                                            cond (c146ok (⟨x46.hi, x46.lo, x17.e, true⟩ : LWord) x9.2 down)
                                              (k ((c146 (⟨x46.hi, x46.lo, x17.e, true⟩ : LWord) x9.2 down), 0))
                                              (none))
                                           (cond (c146ok x45 x9.2 down)
                                              (k ((c146 x45 x9.2 down), 0))
                                              (none))))
                                     (let x49 := c156 x17 x37
                                      cond x37.more
                                        (let x50 := c156 x49 (⟨0, 1, 0, false⟩ : LWord)
                                         cond (c146ok (⟨x50.hi, x50.lo, x17.e, true⟩ : LWord) x9.2 down)
                                           (k ((c146 (⟨x50.hi, x50.lo, x17.e, true⟩ : LWord) x9.2 down), 0))
                                           (none))
                                        (cond (c146ok x49 x9.2 down)
                                           (k ((c146 x49 x9.2 down), 0))
                                           (none)))))
                               (none)))
                         (none))
                      (let x54 := IntKind.i64.wrap (126 - (c151 x8.1))
                       let x55 := c150 x8.1 x54
                       cond (c150ok x8.1 x54)
                         (cond (decide (x9.1.e ≥ x55.e))
                            (let x57 := IntKind.i64.wrap (x9.1.e - x55.e)
                             let x58 := c150 x9.1 x57
                             cond (c150ok x9.1 x57)
                               (cond (x8.2 == x9.2)
                                  (let x60 := c155 x55 x58
                                   cond (c146ok x60 x8.2 down)
                                     (k ((c146 x60 x8.2 down), 0))
                                     (none))
                                  (cond (!x58.more)
                                     (cond (c152 x55 x58)
                                        (let x64 := c156 x58 x55
                                         cond (c146ok x64 x9.2 down)
                                           (k ((c146 x64 x9.2 down), 0))
                                           (none))
                                        (let x66 := c156 x55 x58
                                         cond x58.more
                                           (let x67 := c156 x66 (⟨0, 1, 0, false⟩ : LWord)
                                            cond (c146ok (⟨x67.hi, x67.lo, x55.e, true⟩ : LWord) x8.2 down)
                                              (k ((c146 (⟨x67.hi, x67.lo, x55.e, true⟩ : LWord) x8.2 down), 0))
                                              (none))
                                           (cond (c146ok x66 x8.2 down)
                                              (k ((c146 x66 x8.2 down), 0))
                                              (none))))
                                     (let x70 := c156 x55 x58
                                      cond x58.more
                                        (let x71 := c156 x70 (⟨0, 1, 0, false⟩ : LWord)
                                         cond (c146ok (⟨x71.hi, x71.lo, x55.e, true⟩ : LWord) x8.2 down)
                                           (k ((c146 (⟨x71.hi, x71.lo, x55.e, true⟩ : LWord) x8.2 down), 0))
                                           (none))
                                        (cond (c146ok x70 x8.2 down)
                                           (k ((c146 x70 x8.2 down), 0))
                                           (none)))))
                               (none))
                            (let x74 := IntKind.i64.wrap (x55.e - x9.1.e)
                             let x75 := c154 x9.1 x74
                             cond (c154ok x9.1 x74)
                               (cond (x8.2 == x9.2)
                                  (let x77 := c155 x55 x75
                                   cond (c146ok x77 x8.2 down)
                                     (k ((c146 x77 x8.2 down), 0))
                                     (none))
                                  (cond (!x75.more)
                                     (cond (c152 x55 x75)
                                        (let x81 := c156 x75 x55
                                         cond (c146ok x81 x9.2 down)
                                           (k ((c146 x81 x9.2 down), 0))
                                           (none))
                                        (let x83 := c156 x55 x75
                                         cond x75.more
                                           (let x84 := c156 x83 (⟨0, 1, 0, false⟩ : LWord)
                                            cond (c146ok (⟨x84.hi, x84.lo, x55.e, true⟩ : LWord) x8.2 down)
                                              (k ((c146 (⟨x84.hi, x84.lo, x55.e, true⟩ : LWord) x8.2 down), 0))
                                              (none))
                                           (cond (c146ok x83 x8.2 down)
                                              (k ((c146 x83 x8.2 down), 0))
                                              (none))))
                                     (let x87 := c156 x55 x75
                                      cond x75.more
                                        (let x88 := c156 x87 (⟨0, 1, 0, false⟩ : LWord)
                                         cond (c146ok (⟨x88.hi, x88.lo, x55.e, true⟩ : LWord) x8.2 down)
                                           (k ((c146 (⟨x88.hi, x88.lo, x55.e, true⟩ : LWord) x8.2 down), 0))
                                           (none))
                                        (cond (c146ok x87 x8.2 down)
                                           (k ((c146 x87 x8.2 down), 0))
                                           (none)))))
                               (none)))
                         (none)))
                   (none))
                (none)))))
def lanternref01_Add (M : Prims) (x : Nat) (y : Nat) (down : Bool) : Nat × Int :=
  cond (!(lanternref01_Number M x))
    ((0, 10))
    (cond (!(lanternref01_Number M y))
       ((0, 10))
       (cond (M.eq y 0)
          (((lanternref01_Zeroed M x), 0))
          (cond (M.eq x 0)
             ((y, 0))
             (let x8 := lanternref01_Part M x
              let x9 := lanternref01_Part M y
              cond (decide ((IntKind.i64.wrap ((lanternref01_Length M x8.1) + x8.1.e)) < (IntKind.i64.wrap ((lanternref01_Length M x9.1) + x9.1.e))))
                (let x17 := lanternref01_Up M x9.1 (IntKind.i64.wrap (126 - (lanternref01_Length M x9.1)))
                 cond (decide (x8.1.e ≥ x17.e))
                   (let x20 := lanternref01_Up M x8.1 (IntKind.i64.wrap (x8.1.e - x17.e))
                    cond (x9.2 == x8.2)
                      (((lanternref01_To M (lanternref01_plus M x17 x20) x9.2 down), 0))
                      (cond (!x20.more)
                         (cond (lanternref01_below M x17 x20)
                            (((lanternref01_To M (lanternref01_minus M x20 x17) x8.2 down), 0))
                            (let x28 := lanternref01_minus M x17 x20
                             cond x20.more
                               (let x29 := lanternref01_minus M x28 (⟨0, 1, 0, false⟩ : LWord)
                                ((lanternref01_To M (⟨x29.hi, x29.lo, x17.e, true⟩ : LWord) x9.2 down), 0))
                               (((lanternref01_To M x28 x9.2 down), 0))))
                         (let x32 := lanternref01_minus M x17 x20
                          cond x20.more
                            (let x33 := lanternref01_minus M x32 (⟨0, 1, 0, false⟩ : LWord)
                             ((lanternref01_To M (⟨x33.hi, x33.lo, x17.e, true⟩ : LWord) x9.2 down), 0))
                            (((lanternref01_To M x32 x9.2 down), 0)))))
                   (let x37 := lanternref01_Down M x8.1 (IntKind.i64.wrap (x17.e - x8.1.e))
                    cond (x9.2 == x8.2)
                      (((lanternref01_To M (lanternref01_plus M x17 x37) x9.2 down), 0))
                      (cond (!x37.more)
                         (cond (lanternref01_below M x17 x37)
                            (((lanternref01_To M (lanternref01_minus M x37 x17) x8.2 down), 0))
                            (let x45 := lanternref01_minus M x17 x37
                             cond x37.more
                               (let x46 := lanternref01_minus M x45 (⟨0, 1, 0, false⟩ : LWord)
                                ((lanternref01_To M (⟨x46.hi, x46.lo, x17.e, true⟩ : LWord) x9.2 down), 0))
                               (((lanternref01_To M x45 x9.2 down), 0))))
                         (let x49 := lanternref01_minus M x17 x37
                          cond x37.more
                            (let x50 := lanternref01_minus M x49 (⟨0, 1, 0, false⟩ : LWord)
                             ((lanternref01_To M (⟨x50.hi, x50.lo, x17.e, true⟩ : LWord) x9.2 down), 0))
                            (((lanternref01_To M x49 x9.2 down), 0))))))
                (let x55 := lanternref01_Up M x8.1 (IntKind.i64.wrap (126 - (lanternref01_Length M x8.1)))
                 cond (decide (x9.1.e ≥ x55.e))
                   (let x58 := lanternref01_Up M x9.1 (IntKind.i64.wrap (x9.1.e - x55.e))
                    cond (x8.2 == x9.2)
                      (((lanternref01_To M (lanternref01_plus M x55 x58) x8.2 down), 0))
                      (cond (!x58.more)
                         (cond (lanternref01_below M x55 x58)
                            (((lanternref01_To M (lanternref01_minus M x58 x55) x9.2 down), 0))
                            (let x66 := lanternref01_minus M x55 x58
                             cond x58.more
                               (let x67 := lanternref01_minus M x66 (⟨0, 1, 0, false⟩ : LWord)
                                ((lanternref01_To M (⟨x67.hi, x67.lo, x55.e, true⟩ : LWord) x8.2 down), 0))
                               (((lanternref01_To M x66 x8.2 down), 0))))
                         (let x70 := lanternref01_minus M x55 x58
                          cond x58.more
                            (let x71 := lanternref01_minus M x70 (⟨0, 1, 0, false⟩ : LWord)
                             ((lanternref01_To M (⟨x71.hi, x71.lo, x55.e, true⟩ : LWord) x8.2 down), 0))
                            (((lanternref01_To M x70 x8.2 down), 0)))))
                   (let x75 := lanternref01_Down M x9.1 (IntKind.i64.wrap (x55.e - x9.1.e))
                    cond (x8.2 == x9.2)
                      (((lanternref01_To M (lanternref01_plus M x55 x75) x8.2 down), 0))
                      (cond (!x75.more)
                         (cond (lanternref01_below M x55 x75)
                            (((lanternref01_To M (lanternref01_minus M x75 x55) x9.2 down), 0))
                            (let x83 := lanternref01_minus M x55 x75
                             cond x75.more
                               (let x84 := lanternref01_minus M x83 (⟨0, 1, 0, false⟩ : LWord)
                                ((lanternref01_To M (⟨x84.hi, x84.lo, x55.e, true⟩ : LWord) x8.2 down), 0))
                               (((lanternref01_To M x83 x8.2 down), 0))))
                         (let x87 := lanternref01_minus M x55 x75
                          cond x75.more
                            (let x88 := lanternref01_minus M x87 (⟨0, 1, 0, false⟩ : LWord)
                             ((lanternref01_To M (⟨x88.hi, x88.lo, x55.e, true⟩ : LWord) x8.2 down), 0))
                            (((lanternref01_To M x87 x8.2 down), 0))))))))))
def lanternref01_Add.ok (M : Prims) (x : Nat) (y : Nat) (down : Bool) : Bool :=
  cond (!(lanternref01_Number M x))
    (true)
    (cond (!(lanternref01_Number M y))
       (true)
       (cond (M.eq y 0)
          (true)
          (cond (M.eq x 0)
             (true)
             (let x8 := lanternref01_Part M x
              cond (lanternref01_Part.ok M x)
                (let x9 := lanternref01_Part M y
                 cond (lanternref01_Part.ok M y)
                   (cond (decide ((IntKind.i64.wrap ((lanternref01_Length M x8.1) + x8.1.e)) < (IntKind.i64.wrap ((lanternref01_Length M x9.1) + x9.1.e))))
                      (let x16 := IntKind.i64.wrap (126 - (lanternref01_Length M x9.1))
                       let x17 := lanternref01_Up M x9.1 x16
                       cond (lanternref01_Up.ok M x9.1 x16)
                         (cond (decide (x8.1.e ≥ x17.e))
                            (let x19 := IntKind.i64.wrap (x8.1.e - x17.e)
                             let x20 := lanternref01_Up M x8.1 x19
                             cond (lanternref01_Up.ok M x8.1 x19)
                               (cond (x9.2 == x8.2)
                                  (cond (lanternref01_To.ok M (lanternref01_plus M x17 x20) x9.2 down)
                                     (true)
                                     (false))
                                  (cond (!x20.more)
                                     (cond (lanternref01_below M x17 x20)
                                        (cond (lanternref01_To.ok M (lanternref01_minus M x20 x17) x8.2 down)
                                           (true)
                                           (false))
                                        (let x28 := lanternref01_minus M x17 x20
                                         cond x20.more
                                           (let x29 := lanternref01_minus M x28 (⟨0, 1, 0, false⟩ : LWord)
                                            cond (lanternref01_To.ok M (⟨x29.hi, x29.lo, x17.e, true⟩ : LWord) x9.2 down)
                                              (true)
                                              (false))
                                           (cond (lanternref01_To.ok M x28 x9.2 down)
                                              (true)
                                              (false))))
                                     (let x32 := lanternref01_minus M x17 x20
                                      cond x20.more
                                        (let x33 := lanternref01_minus M x32 (⟨0, 1, 0, false⟩ : LWord)
                                         cond (lanternref01_To.ok M (⟨x33.hi, x33.lo, x17.e, true⟩ : LWord) x9.2 down)
                                           (true)
                                           (false))
                                        (cond (lanternref01_To.ok M x32 x9.2 down)
                                           (true)
                                           (false)))))
                               (false))
                            (let x36 := IntKind.i64.wrap (x17.e - x8.1.e)
                             let x37 := lanternref01_Down M x8.1 x36
                             cond (lanternref01_Down.ok M x8.1 x36)
                               (cond (x9.2 == x8.2)
                                  (cond (lanternref01_To.ok M (lanternref01_plus M x17 x37) x9.2 down)
                                     (true)
                                     (false))
                                  (cond (!x37.more)
                                     (cond (lanternref01_below M x17 x37)
                                        (cond (lanternref01_To.ok M (lanternref01_minus M x37 x17) x8.2 down)
                                           (true)
                                           (false))
                                        (let x45 := lanternref01_minus M x17 x37
                                         cond x37.more
                                           (let x46 := lanternref01_minus M x45 (⟨0, 1, 0, false⟩ : LWord)
                                            cond (lanternref01_To.ok M (⟨x46.hi, x46.lo, x17.e, true⟩ : LWord) x9.2 down)
                                              (true)
                                              (false))
                                           (cond (lanternref01_To.ok M x45 x9.2 down)
                                              (true)
                                              (false))))
                                     (let x49 := lanternref01_minus M x17 x37
                                      cond x37.more
                                        (let x50 := lanternref01_minus M x49 (⟨0, 1, 0, false⟩ : LWord)
                                         cond (lanternref01_To.ok M (⟨x50.hi, x50.lo, x17.e, true⟩ : LWord) x9.2 down)
                                           (true)
                                           (false))
                                        (cond (lanternref01_To.ok M x49 x9.2 down)
                                           (true)
                                           (false)))))
                               (false)))
                         (false))
                      (let x54 := IntKind.i64.wrap (126 - (lanternref01_Length M x8.1))
                       let x55 := lanternref01_Up M x8.1 x54
                       cond (lanternref01_Up.ok M x8.1 x54)
                         (cond (decide (x9.1.e ≥ x55.e))
                            (let x57 := IntKind.i64.wrap (x9.1.e - x55.e)
                             let x58 := lanternref01_Up M x9.1 x57
                             cond (lanternref01_Up.ok M x9.1 x57)
                               (cond (x8.2 == x9.2)
                                  (cond (lanternref01_To.ok M (lanternref01_plus M x55 x58) x8.2 down)
                                     (true)
                                     (false))
                                  (cond (!x58.more)
                                     (cond (lanternref01_below M x55 x58)
                                        (cond (lanternref01_To.ok M (lanternref01_minus M x58 x55) x9.2 down)
                                           (true)
                                           (false))
                                        (let x66 := lanternref01_minus M x55 x58
                                         cond x58.more
                                           (let x67 := lanternref01_minus M x66 (⟨0, 1, 0, false⟩ : LWord)
                                            cond (lanternref01_To.ok M (⟨x67.hi, x67.lo, x55.e, true⟩ : LWord) x8.2 down)
                                              (true)
                                              (false))
                                           (cond (lanternref01_To.ok M x66 x8.2 down)
                                              (true)
                                              (false))))
                                     (let x70 := lanternref01_minus M x55 x58
                                      cond x58.more
                                        (let x71 := lanternref01_minus M x70 (⟨0, 1, 0, false⟩ : LWord)
                                         cond (lanternref01_To.ok M (⟨x71.hi, x71.lo, x55.e, true⟩ : LWord) x8.2 down)
                                           (true)
                                           (false))
                                        (cond (lanternref01_To.ok M x70 x8.2 down)
                                           (true)
                                           (false)))))
                               (false))
                            (let x74 := IntKind.i64.wrap (x55.e - x9.1.e)
                             let x75 := lanternref01_Down M x9.1 x74
                             cond (lanternref01_Down.ok M x9.1 x74)
                               (cond (x8.2 == x9.2)
                                  (cond (lanternref01_To.ok M (lanternref01_plus M x55 x75) x8.2 down)
                                     (true)
                                     (false))
                                  (cond (!x75.more)
                                     (cond (lanternref01_below M x55 x75)
                                        (cond (lanternref01_To.ok M (lanternref01_minus M x75 x55) x9.2 down)
                                           (true)
                                           (false))
                                        (let x83 := lanternref01_minus M x55 x75
                                         cond x75.more
                                           (let x84 := lanternref01_minus M x83 (⟨0, 1, 0, false⟩ : LWord)
                                            cond (lanternref01_To.ok M (⟨x84.hi, x84.lo, x55.e, true⟩ : LWord) x8.2 down)
                                              (true)
                                              (false))
                                           (cond (lanternref01_To.ok M x83 x8.2 down)
                                              (true)
                                              (false))))
                                     (let x87 := lanternref01_minus M x55 x75
                                      cond x75.more
                                        (let x88 := lanternref01_minus M x87 (⟨0, 1, 0, false⟩ : LWord)
                                         cond (lanternref01_To.ok M (⟨x88.hi, x88.lo, x55.e, true⟩ : LWord) x8.2 down)
                                           (true)
                                           (false))
                                        (cond (lanternref01_To.ok M x87 x8.2 down)
                                           (true)
                                           (false)))))
                               (false)))
                         (false)))
                   (false))
                (false)))))
def lanternref01_Add.fns (c100 : Nat → Bool) (c101 : Nat → Nat) (c144 : Nat → LWord × Bool) (c144ok : Nat → Bool) (c146 : LWord → Bool → Bool → Nat) (c146ok : LWord → Bool → Bool → Bool) (c150 : LWord → Int → LWord) (c150ok : LWord → Int → Bool) (c151 : LWord → Int) (c152 : LWord → LWord → Bool) (c154 : LWord → Int → LWord) (c154ok : LWord → Int → Bool) (c155 : LWord → LWord → LWord) (c156 : LWord → LWord → LWord) : FuncId → List Value → Option (Bool × Value) := ifId 100 (lanternref01_Number.ph c100) <| ifId 101 (lanternref01_Zeroed.ph c101) <| ifId 144 (lanternref01_Part.ph c144 c144ok) <| ifId 146 (lanternref01_To.ph c146 c146ok) <| ifId 150 (lanternref01_Up.ph c150 c150ok) <| ifId 151 (lanternref01_Length.ph c151) <| ifId 152 (lanternref01_below.ph c152) <| ifId 154 (lanternref01_Down.ph c154 c154ok) <| ifId 155 (lanternref01_plus.ph c155) <| ifId 156 (lanternref01_minus.ph c156) <| noFns
theorem lanternref01_Add.fnsOK : PureFns Tryz.prog (lanternref01_Add.fns (lanternref01_Number M0) (lanternref01_Zeroed M0) (lanternref01_Part M0) (lanternref01_Part.ok M0) (lanternref01_To M0) (lanternref01_To.ok M0) (lanternref01_Up M0) (lanternref01_Up.ok M0) (lanternref01_Length M0) (lanternref01_below M0) (lanternref01_Down M0) (lanternref01_Down.ok M0) (lanternref01_plus M0) (lanternref01_minus M0)) := ifIdOK lanternref01_Number.phOK <| ifIdOK lanternref01_Zeroed.phOK <| ifIdOK lanternref01_Part.phOK <| ifIdOK lanternref01_To.phOK <| ifIdOK lanternref01_Up.phOK <| ifIdOK lanternref01_Length.phOK <| ifIdOK lanternref01_below.phOK <| ifIdOK lanternref01_Down.phOK <| ifIdOK lanternref01_plus.phOK <| ifIdOK lanternref01_minus.phOK <| noFnsOK
theorem lanternref01_Add.ev (M : Prims) (c100 : Nat → Bool) (c101 : Nat → Nat) (c144 : Nat → LWord × Bool) (c144ok : Nat → Bool) (c146 : LWord → Bool → Bool → Nat) (c146ok : LWord → Bool → Bool → Bool) (c150 : LWord → Int → LWord) (c150ok : LWord → Int → Bool) (c151 : LWord → Int) (c152 : LWord → LWord → Bool) (c154 : LWord → Int → LWord) (c154ok : LWord → Int → Bool) (c155 : LWord → LWord → LWord) (c156 : LWord → LWord → LWord)  (x : Nat) (y : Nat) (down : Bool) : evP tab M (lanternref01_Add.fns c100 c101 c144 c144ok c146 c146ok c150 c150ok c151 c152 c154 c154ok c155 c156) noLoops 300 Tryz.f114 [(.float .f64 x), (.float .f64 y), (.bool down)] = lanternref01_Add.k M c100 c101 c144 c144ok c146 c146ok c150 c150ok c151 c152 c154 c154ok c155 c156  x y down (fun r => some (.tuple ⟨[(.float .f64 r.1), (.int .i64 r.2)]⟩, [])) := by kernel_rfl
theorem lanternref01_Add.k_eq (M : Prims) (x : Nat) (y : Nat) (down : Bool) (k : Nat × Int → R) : lanternref01_Add.ok M x y down = true → lanternref01_Add.k M (lanternref01_Number M) (lanternref01_Zeroed M) (lanternref01_Part M) (lanternref01_Part.ok M) (lanternref01_To M) (lanternref01_To.ok M) (lanternref01_Up M) (lanternref01_Up.ok M) (lanternref01_Length M) (lanternref01_below M) (lanternref01_Down M) (lanternref01_Down.ok M) (lanternref01_plus M) (lanternref01_minus M) x y down k = k (lanternref01_Add M x y down) := by
  unfold lanternref01_Add.ok lanternref01_Add.k lanternref01_Add
  exact kC (fun _ => rfl) (kC (fun _ => rfl) (kC (fun _ => rfl) (kC (fun _ => rfl) (kL (kL (kC (kL (kC (kL (kC (kL (fun _ => rfl)) (kC (kC (kL (fun _ => rfl)) (kC (kL (fun _ => rfl)) (kL (fun _ => rfl)))) (kC (kL (fun _ => rfl)) (kL (fun _ => rfl)))))) (kL (kC (kL (fun _ => rfl)) (kC (kC (kL (fun _ => rfl)) (kC (kL (fun _ => rfl)) (kL (fun _ => rfl)))) (kC (kL (fun _ => rfl)) (kL (fun _ => rfl)))))))) (kL (kC (kL (kC (kL (fun _ => rfl)) (kC (kC (kL (fun _ => rfl)) (kC (kL (fun _ => rfl)) (kL (fun _ => rfl)))) (kC (kL (fun _ => rfl)) (kL (fun _ => rfl)))))) (kL (kC (kL (fun _ => rfl)) (kC (kC (kL (fun _ => rfl)) (kC (kL (fun _ => rfl)) (kL (fun _ => rfl)))) (kC (kL (fun _ => rfl)) (kL (fun _ => rfl))))))))))))))
theorem lanternref01_Add.call (x : Nat) (y : Nat) (down : Bool) (h : lanternref01_Add.ok M0 x y down = true) : PureOK Tryz.prog 114 [(.float .f64 x), (.float .f64 y), (.bool down)] (.tuple ⟨[(.float .f64 ((lanternref01_Add M0 x y down).1)), (.int .i64 ((lanternref01_Add M0 x y down).2))]⟩) :=
  evP_sound (P := Tryz.prog) mixed tabOK lanternref01_Add.fnsOK Tryz.func114 rfl (Λ := noLoops) (c := Tryz.f114.body.getD .skip) rfl (noLoopsOK _) rfl (Nat.zero_le 1) rfl rfl ((lanternref01_Add.ev M0 (lanternref01_Number M0) (lanternref01_Zeroed M0) (lanternref01_Part M0) (lanternref01_Part.ok M0) (lanternref01_To M0) (lanternref01_To.ok M0) (lanternref01_Up M0) (lanternref01_Up.ok M0) (lanternref01_Length M0) (lanternref01_below M0) (lanternref01_Down M0) (lanternref01_Down.ok M0) (lanternref01_plus M0) (lanternref01_minus M0) x y down).trans (lanternref01_Add.k_eq M0 x y down _ h))
def lanternref01_Add.ph (c114 : Nat → Nat → Bool → Nat × Int) (c114ok : Nat → Nat → Bool → Bool) : Ph := fun args => match args with
  | [.float .f64 a0_, .float .f64 a1_, .bool a2_] => some (c114ok a0_ a1_ a2_, .tuple ⟨[(.float .f64 ((c114 a0_ a1_ a2_).1)), (.int .i64 ((c114 a0_ a1_ a2_).2))]⟩)
  | _ => none
theorem lanternref01_Add.phOK : PhOK Tryz.prog 114 (lanternref01_Add.ph (lanternref01_Add M0) (lanternref01_Add.ok M0)) := ⟨by
  intro args v h
  unfold lanternref01_Add.ph at h
  split at h
  · rename_i a0_ a1_ a2_
    simp only [Option.some.injEq, Prod.mk.injEq] at h
    obtain ⟨hok, rfl⟩ := h
    exact ⟨rfl, rfl, lanternref01_Add.call a0_ a1_ a2_ hok⟩
  · cases h⟩
def lanternref02_Add.k (M : Prims) (c114 : Nat → Nat → Bool → Nat × Int) (c114ok : Nat → Nat → Bool → Bool) (c65 : Nat) (a : LSpan) (b : LSpan) (k : LSpan → R) : R :=
  let x1 := c114 a.lo b.lo true
  cond (c114ok a.lo b.lo true)
    (cond ((x1.2 : Int) != 0)
       (let x3 := M.neg c65
        let x4 := c114 a.hi b.hi false
        cond (c114ok a.hi b.hi false)
          (cond ((x4.2 : Int) != 0)
             (k (⟨x3, c65⟩ : LSpan))
             (k (⟨x3, x4.1⟩ : LSpan)))
          (none))
       (let x6 := c114 a.hi b.hi false
        cond (c114ok a.hi b.hi false)
          (cond ((x6.2 : Int) != 0)
             (k (⟨x1.1, c65⟩ : LSpan))
             (k (⟨x1.1, x6.1⟩ : LSpan)))
          (none)))
    (none)
def lanternref02_Add (M : Prims) (a : LSpan) (b : LSpan) : LSpan :=
  let x1 := lanternref01_Add M a.lo b.lo true
  cond ((x1.2 : Int) != 0)
    (let x3 := M.neg (lanternref01_Inf M)
     let x4 := lanternref01_Add M a.hi b.hi false
     cond ((x4.2 : Int) != 0)
       ((⟨x3, (lanternref01_Inf M)⟩ : LSpan))
       ((⟨x3, x4.1⟩ : LSpan)))
    (let x6 := lanternref01_Add M a.hi b.hi false
     cond ((x6.2 : Int) != 0)
       ((⟨x1.1, (lanternref01_Inf M)⟩ : LSpan))
       ((⟨x1.1, x6.1⟩ : LSpan)))
def lanternref02_Add.ok (M : Prims) (a : LSpan) (b : LSpan) : Bool :=
  cond (lanternref01_Add.ok M a.lo b.lo true)
    (cond (((lanternref01_Add M a.lo b.lo true).2 : Int) != 0)
       (cond (lanternref01_Add.ok M a.hi b.hi false)
          (true)
          (false))
       (cond (lanternref01_Add.ok M a.hi b.hi false)
          (true)
          (false)))
    (false)
def lanternref02_Add.fns (c114 : Nat → Nat → Bool → Nat × Int) (c114ok : Nat → Nat → Bool → Bool) (c65 : Nat) : FuncId → List Value → Option (Bool × Value) := ifId 114 (lanternref01_Add.ph c114 c114ok) <| ifId 65 (lanternref01_Inf.ph c65) <| noFns
theorem lanternref02_Add.fnsOK : PureFns Tryz.prog (lanternref02_Add.fns (lanternref01_Add M0) (lanternref01_Add.ok M0) (lanternref01_Inf M0)) := ifIdOK lanternref01_Add.phOK <| ifIdOK lanternref01_Inf.phOK <| noFnsOK
theorem lanternref02_Add.ev (M : Prims) (c114 : Nat → Nat → Bool → Nat × Int) (c114ok : Nat → Nat → Bool → Bool) (c65 : Nat)  (a : LSpan) (b : LSpan) : evP tab M (lanternref02_Add.fns c114 c114ok c65) noLoops 300 Tryz.f64 [a.val, b.val] = lanternref02_Add.k M c114 c114ok c65  a b (fun r => some (r.val, [])) := by kernel_rfl
theorem lanternref02_Add.k_eq (M : Prims) (a : LSpan) (b : LSpan) (k : LSpan → R) : lanternref02_Add.ok M a b = true → lanternref02_Add.k M (lanternref01_Add M) (lanternref01_Add.ok M) (lanternref01_Inf M) a b k = k (lanternref02_Add M a b) := by
  unfold lanternref02_Add.ok lanternref02_Add.k lanternref02_Add
  exact kL (kC (kL (fun _ => pC rfl rfl)) (kL (fun _ => pC rfl rfl)))
theorem lanternref02_Add.call (a : LSpan) (b : LSpan) (h : lanternref02_Add.ok M0 a b = true) : PureOK Tryz.prog 64 [a.val, b.val] ((lanternref02_Add M0 a b).val) :=
  evP_sound (P := Tryz.prog) mixed tabOK lanternref02_Add.fnsOK Tryz.func64 rfl (Λ := noLoops) (c := Tryz.f64.body.getD .skip) rfl (noLoopsOK _) rfl (Nat.zero_le 1) rfl rfl ((lanternref02_Add.ev M0 (lanternref01_Add M0) (lanternref01_Add.ok M0) (lanternref01_Inf M0) a b).trans (lanternref02_Add.k_eq M0 a b _ h))
def lanternref02_Add.ph (c64 : LSpan → LSpan → LSpan) (c64ok : LSpan → LSpan → Bool) : Ph := fun args => match args with
  | [.agg ⟨[.float .f64 a0_0, .float .f64 a0_1]⟩, .agg ⟨[.float .f64 a1_0, .float .f64 a1_1]⟩] => some (c64ok (⟨a0_0, a0_1⟩ : LSpan) (⟨a1_0, a1_1⟩ : LSpan), (c64 (⟨a0_0, a0_1⟩ : LSpan) (⟨a1_0, a1_1⟩ : LSpan)).val)
  | _ => none
theorem lanternref02_Add.phOK : PhOK Tryz.prog 64 (lanternref02_Add.ph (lanternref02_Add M0) (lanternref02_Add.ok M0)) := ⟨by
  intro args v h
  unfold lanternref02_Add.ph at h
  split at h
  · rename_i a0_0 a0_1 a1_0 a1_1
    simp only [Option.some.injEq, Prod.mk.injEq] at h
    obtain ⟨hok, rfl⟩ := h
    exact ⟨rfl, rfl, lanternref02_Add.call (⟨a0_0, a0_1⟩ : LSpan) (⟨a1_0, a1_1⟩ : LSpan) hok⟩
  · cases h⟩
def lanternref02_Sub.k (_ : Prims) (c106 : LSpan → LSpan) (c64 : LSpan → LSpan → LSpan) (c64ok : LSpan → LSpan → Bool) (a : LSpan) (b : LSpan) (k : LSpan → R) : R :=
  let x1 := c106 b
  cond (c64ok a x1)
    (k (c64 a x1))
    (none)
def lanternref02_Sub (M : Prims) (a : LSpan) (b : LSpan) : LSpan :=
  (lanternref02_Add M a (lanternref02_Neg M b))
def lanternref02_Sub.ok (M : Prims) (a : LSpan) (b : LSpan) : Bool :=
  cond (lanternref02_Add.ok M a (lanternref02_Neg M b))
    (true)
    (false)
def lanternref02_Sub.fns (c106 : LSpan → LSpan) (c64 : LSpan → LSpan → LSpan) (c64ok : LSpan → LSpan → Bool) : FuncId → List Value → Option (Bool × Value) := ifId 106 (lanternref02_Neg.ph c106) <| ifId 64 (lanternref02_Add.ph c64 c64ok) <| noFns
theorem lanternref02_Sub.fnsOK : PureFns Tryz.prog (lanternref02_Sub.fns (lanternref02_Neg M0) (lanternref02_Add M0) (lanternref02_Add.ok M0)) := ifIdOK lanternref02_Neg.phOK <| ifIdOK lanternref02_Add.phOK <| noFnsOK
theorem lanternref02_Sub.ev (M : Prims) (c106 : LSpan → LSpan) (c64 : LSpan → LSpan → LSpan) (c64ok : LSpan → LSpan → Bool)  (a : LSpan) (b : LSpan) : evP tab M (lanternref02_Sub.fns c106 c64 c64ok) noLoops 300 Tryz.f58 [a.val, b.val] = lanternref02_Sub.k M c106 c64 c64ok  a b (fun r => some (r.val, [])) := by kernel_rfl
theorem lanternref02_Sub.k_eq (M : Prims) (a : LSpan) (b : LSpan) (k : LSpan → R) : lanternref02_Sub.ok M a b = true → lanternref02_Sub.k M (lanternref02_Neg M) (lanternref02_Add M) (lanternref02_Add.ok M) a b k = k (lanternref02_Sub M a b) := by
  unfold lanternref02_Sub.ok lanternref02_Sub.k lanternref02_Sub
  exact kL (fun _ => rfl)
theorem lanternref02_Sub.call (a : LSpan) (b : LSpan) (h : lanternref02_Sub.ok M0 a b = true) : PureOK Tryz.prog 58 [a.val, b.val] ((lanternref02_Sub M0 a b).val) :=
  evP_sound (P := Tryz.prog) mixed tabOK lanternref02_Sub.fnsOK Tryz.func58 rfl (Λ := noLoops) (c := Tryz.f58.body.getD .skip) rfl (noLoopsOK _) rfl (Nat.zero_le 1) rfl rfl ((lanternref02_Sub.ev M0 (lanternref02_Neg M0) (lanternref02_Add M0) (lanternref02_Add.ok M0) a b).trans (lanternref02_Sub.k_eq M0 a b _ h))
def lanternref02_Sub.ph (c58 : LSpan → LSpan → LSpan) (c58ok : LSpan → LSpan → Bool) : Ph := fun args => match args with
  | [.agg ⟨[.float .f64 a0_0, .float .f64 a0_1]⟩, .agg ⟨[.float .f64 a1_0, .float .f64 a1_1]⟩] => some (c58ok (⟨a0_0, a0_1⟩ : LSpan) (⟨a1_0, a1_1⟩ : LSpan), (c58 (⟨a0_0, a0_1⟩ : LSpan) (⟨a1_0, a1_1⟩ : LSpan)).val)
  | _ => none
theorem lanternref02_Sub.phOK : PhOK Tryz.prog 58 (lanternref02_Sub.ph (lanternref02_Sub M0) (lanternref02_Sub.ok M0)) := ⟨by
  intro args v h
  unfold lanternref02_Sub.ph at h
  split at h
  · rename_i a0_0 a0_1 a1_0 a1_1
    simp only [Option.some.injEq, Prod.mk.injEq] at h
    obtain ⟨hok, rfl⟩ := h
    exact ⟨rfl, rfl, lanternref02_Sub.call (⟨a0_0, a0_1⟩ : LSpan) (⟨a1_0, a1_1⟩ : LSpan) hok⟩
  · cases h⟩
def lanternref03_Sub.k (_ : Prims) (c58 : LSpan → LSpan → LSpan) (c58ok : LSpan → LSpan → Bool) (a : LV3) (b : LV3) (k : LV3 → R) : R :=
  cond (c58ok a.p0 b.p0)
    (cond (c58ok a.p1 b.p1)
       (cond (c58ok a.p2 b.p2)
          (k (⟨(c58 a.p0 b.p0), (c58 a.p1 b.p1), (c58 a.p2 b.p2)⟩ : LV3))
          (none))
       (none))
    (none)
def lanternref03_Sub (M : Prims) (a : LV3) (b : LV3) : LV3 :=
  (⟨(lanternref02_Sub M a.p0 b.p0), (lanternref02_Sub M a.p1 b.p1), (lanternref02_Sub M a.p2 b.p2)⟩ : LV3)
def lanternref03_Sub.ok (M : Prims) (a : LV3) (b : LV3) : Bool :=
  cond (lanternref02_Sub.ok M a.p0 b.p0)
    (cond (lanternref02_Sub.ok M a.p1 b.p1)
       (cond (lanternref02_Sub.ok M a.p2 b.p2)
          (true)
          (false))
       (false))
    (false)
def lanternref03_Sub.fns (c58 : LSpan → LSpan → LSpan) (c58ok : LSpan → LSpan → Bool) : FuncId → List Value → Option (Bool × Value) := ifId 58 (lanternref02_Sub.ph c58 c58ok) <| noFns
theorem lanternref03_Sub.fnsOK : PureFns Tryz.prog (lanternref03_Sub.fns (lanternref02_Sub M0) (lanternref02_Sub.ok M0)) := ifIdOK lanternref02_Sub.phOK <| noFnsOK
theorem lanternref03_Sub.ev (M : Prims) (c58 : LSpan → LSpan → LSpan) (c58ok : LSpan → LSpan → Bool)  (a : LV3) (b : LV3) : evP tab M (lanternref03_Sub.fns c58 c58ok) noLoops 300 Tryz.f44 [a.val, b.val] = lanternref03_Sub.k M c58 c58ok  a b (fun r => some (r.val, [])) := by kernel_rfl
theorem lanternref03_Sub.k_eq (M : Prims) (a : LV3) (b : LV3) (k : LV3 → R) : lanternref03_Sub.ok M a b = true → lanternref03_Sub.k M (lanternref02_Sub M) (lanternref02_Sub.ok M) a b k = k (lanternref03_Sub M a b) := by
  unfold lanternref03_Sub.ok lanternref03_Sub.k lanternref03_Sub
  exact kL (kL (kL (fun _ => rfl)))
theorem lanternref03_Sub.call (a : LV3) (b : LV3) (h : lanternref03_Sub.ok M0 a b = true) : PureOK Tryz.prog 44 [a.val, b.val] ((lanternref03_Sub M0 a b).val) :=
  evP_sound (P := Tryz.prog) mixed tabOK lanternref03_Sub.fnsOK Tryz.func44 rfl (Λ := noLoops) (c := Tryz.f44.body.getD .skip) rfl (noLoopsOK _) rfl (Nat.zero_le 1) rfl rfl ((lanternref03_Sub.ev M0 (lanternref02_Sub M0) (lanternref02_Sub.ok M0) a b).trans (lanternref03_Sub.k_eq M0 a b _ h))
def lanternref03_Sub.ph (c44 : LV3 → LV3 → LV3) (c44ok : LV3 → LV3 → Bool) : Ph := fun args => match args with
  | [.agg ⟨[.float .f64 a0_0, .float .f64 a0_1, .float .f64 a0_2, .float .f64 a0_3, .float .f64 a0_4, .float .f64 a0_5]⟩, .agg ⟨[.float .f64 a1_0, .float .f64 a1_1, .float .f64 a1_2, .float .f64 a1_3, .float .f64 a1_4, .float .f64 a1_5]⟩] => some (c44ok (⟨⟨a0_0, a0_1⟩, ⟨a0_2, a0_3⟩, ⟨a0_4, a0_5⟩⟩ : LV3) (⟨⟨a1_0, a1_1⟩, ⟨a1_2, a1_3⟩, ⟨a1_4, a1_5⟩⟩ : LV3), (c44 (⟨⟨a0_0, a0_1⟩, ⟨a0_2, a0_3⟩, ⟨a0_4, a0_5⟩⟩ : LV3) (⟨⟨a1_0, a1_1⟩, ⟨a1_2, a1_3⟩, ⟨a1_4, a1_5⟩⟩ : LV3)).val)
  | _ => none
theorem lanternref03_Sub.phOK : PhOK Tryz.prog 44 (lanternref03_Sub.ph (lanternref03_Sub M0) (lanternref03_Sub.ok M0)) := ⟨by
  intro args v h
  unfold lanternref03_Sub.ph at h
  split at h
  · rename_i a0_0 a0_1 a0_2 a0_3 a0_4 a0_5 a1_0 a1_1 a1_2 a1_3 a1_4 a1_5
    simp only [Option.some.injEq, Prod.mk.injEq] at h
    obtain ⟨hok, rfl⟩ := h
    exact ⟨rfl, rfl, lanternref03_Sub.call (⟨⟨a0_0, a0_1⟩, ⟨a0_2, a0_3⟩, ⟨a0_4, a0_5⟩⟩ : LV3) (⟨⟨a1_0, a1_1⟩, ⟨a1_2, a1_3⟩, ⟨a1_4, a1_5⟩⟩ : LV3) hok⟩
  · cases h⟩
def lanternref10_sides.k (_ : Prims) (c44 : LV3 → LV3 → LV3) (c44ok : LV3 → LV3 → Bool) (s : LShape) (k : LV3 × LV3 → R) : R :=
  cond (c44ok s.p.p1 s.p.p0)
    (cond (c44ok s.p.p2 s.p.p0)
       (k ((c44 s.p.p1 s.p.p0), (c44 s.p.p2 s.p.p0)))
       (none))
    (none)
def lanternref10_sides (M : Prims) (s : LShape) : LV3 × LV3 :=
  ((lanternref03_Sub M s.p.p1 s.p.p0), (lanternref03_Sub M s.p.p2 s.p.p0))
def lanternref10_sides.ok (M : Prims) (s : LShape) : Bool :=
  cond (lanternref03_Sub.ok M s.p.p1 s.p.p0)
    (cond (lanternref03_Sub.ok M s.p.p2 s.p.p0)
       (true)
       (false))
    (false)
def lanternref10_sides.fns (c44 : LV3 → LV3 → LV3) (c44ok : LV3 → LV3 → Bool) : FuncId → List Value → Option (Bool × Value) := ifId 44 (lanternref03_Sub.ph c44 c44ok) <| noFns
theorem lanternref10_sides.fnsOK : PureFns Tryz.prog (lanternref10_sides.fns (lanternref03_Sub M0) (lanternref03_Sub.ok M0)) := ifIdOK lanternref03_Sub.phOK <| noFnsOK
theorem lanternref10_sides.ev (M : Prims) (c44 : LV3 → LV3 → LV3) (c44ok : LV3 → LV3 → Bool)  (s : LShape) : evP tab M (lanternref10_sides.fns c44 c44ok) noLoops 300 Tryz.f45 [s.val] = lanternref10_sides.k M c44 c44ok  s (fun r => some (.tuple ⟨[r.1.val, r.2.val]⟩, [])) := by kernel_rfl
theorem lanternref10_sides.k_eq (M : Prims) (s : LShape) (k : LV3 × LV3 → R) : lanternref10_sides.ok M s = true → lanternref10_sides.k M (lanternref03_Sub M) (lanternref03_Sub.ok M) s k = k (lanternref10_sides M s) := by
  unfold lanternref10_sides.ok lanternref10_sides.k lanternref10_sides
  exact kL (kL (fun _ => rfl))
theorem lanternref10_sides.call (s : LShape) (h : lanternref10_sides.ok M0 s = true) : PureOK Tryz.prog 45 [s.val] (.tuple ⟨[((lanternref10_sides M0 s).1).val, ((lanternref10_sides M0 s).2).val]⟩) :=
  evP_sound (P := Tryz.prog) mixed tabOK lanternref10_sides.fnsOK Tryz.func45 rfl (Λ := noLoops) (c := Tryz.f45.body.getD .skip) rfl (noLoopsOK _) rfl (Nat.zero_le 1) rfl rfl ((lanternref10_sides.ev M0 (lanternref03_Sub M0) (lanternref03_Sub.ok M0) s).trans (lanternref10_sides.k_eq M0 s _ h))
def lanternref10_sides.ph (c45 : LShape → LV3 × LV3) (c45ok : LShape → Bool) : Ph := fun args => match args with
  | [.agg ⟨[.int .i64 a0_0, .float .f64 a0_1, .float .f64 a0_2, .float .f64 a0_3, .float .f64 a0_4, .float .f64 a0_5, .float .f64 a0_6, .float .f64 a0_7, .float .f64 a0_8, .float .f64 a0_9, .float .f64 a0_10, .float .f64 a0_11, .float .f64 a0_12, .float .f64 a0_13, .float .f64 a0_14, .float .f64 a0_15, .float .f64 a0_16, .float .f64 a0_17, .float .f64 a0_18, .float .f64 a0_19, .float .f64 a0_20]⟩] => some (c45ok (⟨a0_0, ⟨⟨⟨a0_1, a0_2⟩, ⟨a0_3, a0_4⟩, ⟨a0_5, a0_6⟩⟩, ⟨⟨a0_7, a0_8⟩, ⟨a0_9, a0_10⟩, ⟨a0_11, a0_12⟩⟩, ⟨⟨a0_13, a0_14⟩, ⟨a0_15, a0_16⟩, ⟨a0_17, a0_18⟩⟩⟩, ⟨a0_19, a0_20⟩⟩ : LShape), .tuple ⟨[((c45 (⟨a0_0, ⟨⟨⟨a0_1, a0_2⟩, ⟨a0_3, a0_4⟩, ⟨a0_5, a0_6⟩⟩, ⟨⟨a0_7, a0_8⟩, ⟨a0_9, a0_10⟩, ⟨a0_11, a0_12⟩⟩, ⟨⟨a0_13, a0_14⟩, ⟨a0_15, a0_16⟩, ⟨a0_17, a0_18⟩⟩⟩, ⟨a0_19, a0_20⟩⟩ : LShape)).1).val, ((c45 (⟨a0_0, ⟨⟨⟨a0_1, a0_2⟩, ⟨a0_3, a0_4⟩, ⟨a0_5, a0_6⟩⟩, ⟨⟨a0_7, a0_8⟩, ⟨a0_9, a0_10⟩, ⟨a0_11, a0_12⟩⟩, ⟨⟨a0_13, a0_14⟩, ⟨a0_15, a0_16⟩, ⟨a0_17, a0_18⟩⟩⟩, ⟨a0_19, a0_20⟩⟩ : LShape)).2).val]⟩)
  | _ => none
theorem lanternref10_sides.phOK : PhOK Tryz.prog 45 (lanternref10_sides.ph (lanternref10_sides M0) (lanternref10_sides.ok M0)) := ⟨by
  intro args v h
  unfold lanternref10_sides.ph at h
  split at h
  · rename_i a0_0 a0_1 a0_2 a0_3 a0_4 a0_5 a0_6 a0_7 a0_8 a0_9 a0_10 a0_11 a0_12 a0_13 a0_14 a0_15 a0_16 a0_17 a0_18 a0_19 a0_20
    simp only [Option.some.injEq, Prod.mk.injEq] at h
    obtain ⟨hok, rfl⟩ := h
    exact ⟨rfl, rfl, lanternref10_sides.call (⟨a0_0, ⟨⟨⟨a0_1, a0_2⟩, ⟨a0_3, a0_4⟩, ⟨a0_5, a0_6⟩⟩, ⟨⟨a0_7, a0_8⟩, ⟨a0_9, a0_10⟩, ⟨a0_11, a0_12⟩⟩, ⟨⟨a0_13, a0_14⟩, ⟨a0_15, a0_16⟩, ⟨a0_17, a0_18⟩⟩⟩, ⟨a0_19, a0_20⟩⟩ : LShape) hok⟩
  · cases h⟩
def lanternref02_nothing.k (M : Prims) (a : LSpan) (k : Bool → R) : R :=
  cond (M.eq a.lo 0)
    (k (M.eq a.hi 0))
    (k false)
def lanternref02_nothing (M : Prims) (a : LSpan) : Bool :=
  cond (M.eq a.lo 0)
    ((M.eq a.hi 0))
    (false)
def lanternref02_nothing.fns : FuncId → List Value → Option (Bool × Value) := noFns
theorem lanternref02_nothing.fnsOK : PureFns Tryz.prog lanternref02_nothing.fns := noFnsOK
theorem lanternref02_nothing.ev (M : Prims)   (a : LSpan) : evP tab M lanternref02_nothing.fns noLoops 300 Tryz.f97 [a.val] = lanternref02_nothing.k M   a (fun r => some ((.bool r), [])) := by kernel_rfl
theorem lanternref02_nothing.k_eq (M : Prims) (a : LSpan) (k : Bool → R) : lanternref02_nothing.k M  a k = k (lanternref02_nothing M a) := by
  unfold lanternref02_nothing.k lanternref02_nothing
  exact pC rfl rfl
theorem lanternref02_nothing.call (a : LSpan) : PureOK Tryz.prog 97 [a.val] (.bool (lanternref02_nothing M0 a)) :=
  evP_sound (P := Tryz.prog) mixed tabOK lanternref02_nothing.fnsOK Tryz.func97 rfl (Λ := noLoops) (c := Tryz.f97.body.getD .skip) rfl (noLoopsOK _) rfl (Nat.zero_le 1) rfl rfl ((lanternref02_nothing.ev M0  a).trans (lanternref02_nothing.k_eq M0 a _))
def lanternref02_nothing.ph (c97 : LSpan → Bool) : Ph := fun args => match args with
  | [.agg ⟨[.float .f64 a0_0, .float .f64 a0_1]⟩] => some (true, (.bool (c97 (⟨a0_0, a0_1⟩ : LSpan))))
  | _ => none
theorem lanternref02_nothing.phOK : PhOK Tryz.prog 97 (lanternref02_nothing.ph (lanternref02_nothing M0)) := ⟨by
  intro args v h
  unfold lanternref02_nothing.ph at h
  split at h
  · rename_i a0_0 a0_1
    simp only [Option.some.injEq, Prod.mk.injEq, true_and] at h
    subst h
    exact ⟨rfl, rfl, lanternref02_nothing.call (⟨a0_0, a0_1⟩ : LSpan)⟩
  · cases h⟩
def lanternref02_Wide.k (_ : Prims) (c100 : Nat → Bool) (a : LSpan) (k : Bool → R) : R :=
  cond (!(c100 a.lo))
    (k true)
    (k (!(c100 a.hi)))
def lanternref02_Wide (M : Prims) (a : LSpan) : Bool :=
  cond (!(lanternref01_Number M a.lo))
    (true)
    ((!(lanternref01_Number M a.hi)))
def lanternref02_Wide.fns (c100 : Nat → Bool) : FuncId → List Value → Option (Bool × Value) := ifId 100 (lanternref01_Number.ph c100) <| noFns
theorem lanternref02_Wide.fnsOK : PureFns Tryz.prog (lanternref02_Wide.fns (lanternref01_Number M0)) := ifIdOK lanternref01_Number.phOK <| noFnsOK
theorem lanternref02_Wide.ev (M : Prims) (c100 : Nat → Bool)  (a : LSpan) : evP tab M (lanternref02_Wide.fns c100) noLoops 300 Tryz.f98 [a.val] = lanternref02_Wide.k M c100  a (fun r => some ((.bool r), [])) := by kernel_rfl
theorem lanternref02_Wide.k_eq (M : Prims) (a : LSpan) (k : Bool → R) : lanternref02_Wide.k M (lanternref01_Number M) a k = k (lanternref02_Wide M a) := by
  unfold lanternref02_Wide.k lanternref02_Wide
  exact pC rfl rfl
theorem lanternref02_Wide.call (a : LSpan) : PureOK Tryz.prog 98 [a.val] (.bool (lanternref02_Wide M0 a)) :=
  evP_sound (P := Tryz.prog) mixed tabOK lanternref02_Wide.fnsOK Tryz.func98 rfl (Λ := noLoops) (c := Tryz.f98.body.getD .skip) rfl (noLoopsOK _) rfl (Nat.zero_le 1) rfl rfl ((lanternref02_Wide.ev M0 (lanternref01_Number M0) a).trans (lanternref02_Wide.k_eq M0 a _))
def lanternref02_Wide.ph (c98 : LSpan → Bool) : Ph := fun args => match args with
  | [.agg ⟨[.float .f64 a0_0, .float .f64 a0_1]⟩] => some (true, (.bool (c98 (⟨a0_0, a0_1⟩ : LSpan))))
  | _ => none
theorem lanternref02_Wide.phOK : PhOK Tryz.prog 98 (lanternref02_Wide.ph (lanternref02_Wide M0)) := ⟨by
  intro args v h
  unfold lanternref02_Wide.ph at h
  split at h
  · rename_i a0_0 a0_1
    simp only [Option.some.injEq, Prod.mk.injEq, true_and] at h
    subst h
    exact ⟨rfl, rfl, lanternref02_Wide.call (⟨a0_0, a0_1⟩ : LSpan)⟩
  · cases h⟩
def lanternref01_Times.k (M : Prims) (a : Int) (b : Int) (k : Int × Int → R) : R :=
  let x1 := shrV .u64 a 32
  let x2 := M.and .u64 a 4294967295
  let x3 := shrV .u64 b 32
  let x4 := M.and .u64 b 4294967295
  let x8 := IntKind.u64.wrap ((IntKind.u64.wrap (x1 * x4)) + (shrV .u64 (IntKind.u64.wrap (x2 * x4)) 32))
  k ((IntKind.u64.wrap ((IntKind.u64.wrap ((IntKind.u64.wrap (x1 * x3)) + (shrV .u64 x8 32))) + (shrV .u64 (IntKind.u64.wrap ((IntKind.u64.wrap (x2 * x3)) + (M.and .u64 x8 4294967295))) 32))), (IntKind.u64.wrap (a * b)))
def lanternref01_Times (M : Prims) (a : Int) (b : Int) : Int × Int :=
  let x1 := shrV .u64 a 32
  let x2 := M.and .u64 a 4294967295
  let x3 := shrV .u64 b 32
  let x4 := M.and .u64 b 4294967295
  let x8 := IntKind.u64.wrap ((IntKind.u64.wrap (x1 * x4)) + (shrV .u64 (IntKind.u64.wrap (x2 * x4)) 32))
  ((IntKind.u64.wrap ((IntKind.u64.wrap ((IntKind.u64.wrap (x1 * x3)) + (shrV .u64 x8 32))) + (shrV .u64 (IntKind.u64.wrap ((IntKind.u64.wrap (x2 * x3)) + (M.and .u64 x8 4294967295))) 32))), (IntKind.u64.wrap (a * b)))
def lanternref01_Times.fns : FuncId → List Value → Option (Bool × Value) := noFns
theorem lanternref01_Times.fnsOK : PureFns Tryz.prog lanternref01_Times.fns := noFnsOK
theorem lanternref01_Times.ev (M : Prims)   (a : Int) (b : Int) : evP tab M lanternref01_Times.fns noLoops 300 Tryz.f145 [(.int .u64 a), (.int .u64 b)] = lanternref01_Times.k M   a b (fun r => some (.tuple ⟨[(.int .u64 r.1), (.int .u64 r.2)]⟩, [])) := by kernel_rfl
theorem lanternref01_Times.k_eq (M : Prims) (a : Int) (b : Int) (k : Int × Int → R) : lanternref01_Times.k M  a b k = k (lanternref01_Times M a b) := by
  unfold lanternref01_Times.k lanternref01_Times
  exact rfl
theorem lanternref01_Times.call (a : Int) (b : Int) : PureOK Tryz.prog 145 [(.int .u64 a), (.int .u64 b)] (.tuple ⟨[(.int .u64 ((lanternref01_Times M0 a b).1)), (.int .u64 ((lanternref01_Times M0 a b).2))]⟩) :=
  evP_sound (P := Tryz.prog) mixed tabOK lanternref01_Times.fnsOK Tryz.func145 rfl (Λ := noLoops) (c := Tryz.f145.body.getD .skip) rfl (noLoopsOK _) rfl (Nat.zero_le 1) rfl rfl ((lanternref01_Times.ev M0  a b).trans (lanternref01_Times.k_eq M0 a b _))
def lanternref01_Times.ph (c145 : Int → Int → Int × Int) : Ph := fun args => match args with
  | [.int .u64 a0_, .int .u64 a1_] => some (true, .tuple ⟨[(.int .u64 ((c145 a0_ a1_).1)), (.int .u64 ((c145 a0_ a1_).2))]⟩)
  | _ => none
theorem lanternref01_Times.phOK : PhOK Tryz.prog 145 (lanternref01_Times.ph (lanternref01_Times M0)) := ⟨by
  intro args v h
  unfold lanternref01_Times.ph at h
  split at h
  · rename_i a0_ a1_
    simp only [Option.some.injEq, Prod.mk.injEq, true_and] at h
    subst h
    exact ⟨rfl, rfl, lanternref01_Times.call a0_ a1_⟩
  · cases h⟩
def lanternref01_Mul.k (_ : Prims) (c100 : Nat → Bool) (c144 : Nat → LWord × Bool) (c144ok : Nat → Bool) (c145 : Int → Int → Int × Int) (c146 : LWord → Bool → Bool → Nat) (c146ok : LWord → Bool → Bool → Bool) (x : Nat) (y : Nat) (down : Bool) (k : Nat × Int → R) : R :=
  cond (!(c100 x))
    (k (0, 10))
    (cond (!(c100 y))
       (k (0, 10))
       (let x5 := c144 x
        cond (c144ok x)
          (let x6 := c144 y
           cond (c144ok y)
             (let x7 := c145 x5.1.lo x6.1.lo
              let x8 := IntKind.i64.wrap (x5.1.e + x6.1.e)
              let x9 := !(x5.2 == x6.2)
              cond (c146ok (⟨x7.1, x7.2, x8, false⟩ : LWord) x9 down)
                (k ((c146 (⟨x7.1, x7.2, x8, false⟩ : LWord) x9 down), 0))
                (none))
             (none))
          (none)))
def lanternref01_Mul (M : Prims) (x : Nat) (y : Nat) (down : Bool) : Nat × Int :=
  cond (!(lanternref01_Number M x))
    ((0, 10))
    (cond (!(lanternref01_Number M y))
       ((0, 10))
       (let x5 := lanternref01_Part M x
        let x6 := lanternref01_Part M y
        let x7 := lanternref01_Times M x5.1.lo x6.1.lo
        ((lanternref01_To M (⟨x7.1, x7.2, (IntKind.i64.wrap (x5.1.e + x6.1.e)), false⟩ : LWord) (!(x5.2 == x6.2)) down), 0)))
def lanternref01_Mul.ok (M : Prims) (x : Nat) (y : Nat) (down : Bool) : Bool :=
  cond (!(lanternref01_Number M x))
    (true)
    (cond (!(lanternref01_Number M y))
       (true)
       (let x5 := lanternref01_Part M x
        cond (lanternref01_Part.ok M x)
          (let x6 := lanternref01_Part M y
           cond (lanternref01_Part.ok M y)
             (let x7 := lanternref01_Times M x5.1.lo x6.1.lo
              cond (lanternref01_To.ok M (⟨x7.1, x7.2, (IntKind.i64.wrap (x5.1.e + x6.1.e)), false⟩ : LWord) (!(x5.2 == x6.2)) down)
                (true)
                (false))
             (false))
          (false)))
def lanternref01_Mul.fns (c100 : Nat → Bool) (c144 : Nat → LWord × Bool) (c144ok : Nat → Bool) (c145 : Int → Int → Int × Int) (c146 : LWord → Bool → Bool → Nat) (c146ok : LWord → Bool → Bool → Bool) : FuncId → List Value → Option (Bool × Value) := ifId 100 (lanternref01_Number.ph c100) <| ifId 144 (lanternref01_Part.ph c144 c144ok) <| ifId 145 (lanternref01_Times.ph c145) <| ifId 146 (lanternref01_To.ph c146 c146ok) <| noFns
theorem lanternref01_Mul.fnsOK : PureFns Tryz.prog (lanternref01_Mul.fns (lanternref01_Number M0) (lanternref01_Part M0) (lanternref01_Part.ok M0) (lanternref01_Times M0) (lanternref01_To M0) (lanternref01_To.ok M0)) := ifIdOK lanternref01_Number.phOK <| ifIdOK lanternref01_Part.phOK <| ifIdOK lanternref01_Times.phOK <| ifIdOK lanternref01_To.phOK <| noFnsOK
theorem lanternref01_Mul.ev (M : Prims) (c100 : Nat → Bool) (c144 : Nat → LWord × Bool) (c144ok : Nat → Bool) (c145 : Int → Int → Int × Int) (c146 : LWord → Bool → Bool → Nat) (c146ok : LWord → Bool → Bool → Bool)  (x : Nat) (y : Nat) (down : Bool) : evP tab M (lanternref01_Mul.fns c100 c144 c144ok c145 c146 c146ok) noLoops 300 Tryz.f99 [(.float .f64 x), (.float .f64 y), (.bool down)] = lanternref01_Mul.k M c100 c144 c144ok c145 c146 c146ok  x y down (fun r => some (.tuple ⟨[(.float .f64 r.1), (.int .i64 r.2)]⟩, [])) := by kernel_rfl
theorem lanternref01_Mul.k_eq (M : Prims) (x : Nat) (y : Nat) (down : Bool) (k : Nat × Int → R) : lanternref01_Mul.ok M x y down = true → lanternref01_Mul.k M (lanternref01_Number M) (lanternref01_Part M) (lanternref01_Part.ok M) (lanternref01_Times M) (lanternref01_To M) (lanternref01_To.ok M) x y down k = k (lanternref01_Mul M x y down) := by
  unfold lanternref01_Mul.ok lanternref01_Mul.k lanternref01_Mul
  exact kC (fun _ => rfl) (kC (fun _ => rfl) (kL (kL (kL (fun _ => rfl)))))
theorem lanternref01_Mul.call (x : Nat) (y : Nat) (down : Bool) (h : lanternref01_Mul.ok M0 x y down = true) : PureOK Tryz.prog 99 [(.float .f64 x), (.float .f64 y), (.bool down)] (.tuple ⟨[(.float .f64 ((lanternref01_Mul M0 x y down).1)), (.int .i64 ((lanternref01_Mul M0 x y down).2))]⟩) :=
  evP_sound (P := Tryz.prog) mixed tabOK lanternref01_Mul.fnsOK Tryz.func99 rfl (Λ := noLoops) (c := Tryz.f99.body.getD .skip) rfl (noLoopsOK _) rfl (Nat.zero_le 1) rfl rfl ((lanternref01_Mul.ev M0 (lanternref01_Number M0) (lanternref01_Part M0) (lanternref01_Part.ok M0) (lanternref01_Times M0) (lanternref01_To M0) (lanternref01_To.ok M0) x y down).trans (lanternref01_Mul.k_eq M0 x y down _ h))
def lanternref01_Mul.ph (c99 : Nat → Nat → Bool → Nat × Int) (c99ok : Nat → Nat → Bool → Bool) : Ph := fun args => match args with
  | [.float .f64 a0_, .float .f64 a1_, .bool a2_] => some (c99ok a0_ a1_ a2_, .tuple ⟨[(.float .f64 ((c99 a0_ a1_ a2_).1)), (.int .i64 ((c99 a0_ a1_ a2_).2))]⟩)
  | _ => none
theorem lanternref01_Mul.phOK : PhOK Tryz.prog 99 (lanternref01_Mul.ph (lanternref01_Mul M0) (lanternref01_Mul.ok M0)) := ⟨by
  intro args v h
  unfold lanternref01_Mul.ph at h
  split at h
  · rename_i a0_ a1_ a2_
    simp only [Option.some.injEq, Prod.mk.injEq] at h
    obtain ⟨hok, rfl⟩ := h
    exact ⟨rfl, rfl, lanternref01_Mul.call a0_ a1_ a2_ hok⟩
  · cases h⟩
end Go.Lan
