/- Sums of exact numbers. -/
import Derived.Test.YtpgjihkaocahbaaMj
namespace Go.Lan

attribute [local irreducible] B

theorem em64 : Extern.MathBitsCarry.m64 = m64 := by decide

theorem add64_nat (x y c : Nat) : add64 (x : Int) (y : Int) (c : Int) = ((((x + y + c) % m64 : Nat) : Int), (((x + y + c) / m64 : Nat) : Int)) := by
  unfold add64
  rw [em64]
  rfl
theorem sub64_nat (x y c : Nat) : sub64 (x : Int) (y : Int) (c : Int) = ((((x + m64 - y - c) % m64 : Nat) : Int), ((if x < y + c then 1 else 0 : Nat) : Int)) := by
  unfold sub64
  rw [em64]
  rfl

theorem add_words {A C : Nat} (h : A + C < m64 * m64) :
    ((((A / m64 + C / m64 + (A % m64 + C % m64 + 0) / m64) % m64 : Nat) : Int), (((A % m64 + C % m64 + 0) % m64 : Nat) : Int)) = ((((A + C) / m64 : Nat) : Int), (((A + C) % m64 : Nat) : Int)) := by
  have hm := hm64
  have h1 := Nat.div_add_mod A m64
  have h2 := Nat.div_add_mod C m64
  have h3 := Nat.mod_lt A (show 0 < m64 by omega)
  have h4 := Nat.mod_lt C (show 0 < m64 by omega)
  have h5 : (A + C) / m64 < m64 := Nat.div_lt_of_lt_mul h
  have e1 : (A % m64 + C % m64 + 0) % m64 = (A + C) % m64 := by rw [hm] at *; omega
  have e2 : (A / m64 + C / m64 + (A % m64 + C % m64 + 0) / m64) = (A + C) / m64 := by rw [hm] at *; omega
  rw [e1, e2, Nat.mod_eq_of_lt h5]

theorem sub_words {A C c : Nat} (h : A < m64 * m64) (hC : C < m64 * m64) (hc : c ≤ 1) :
    (C + c ≤ A → (A / m64 + m64 - C / m64 - (if A % m64 < C % m64 + c then 1 else 0)) % m64 = (A - C - c) / m64 ∧ (A % m64 + m64 - C % m64 - c) % m64 = (A - C - c) % m64 ∧ (if A / m64 < C / m64 + (if A % m64 < C % m64 + c then 1 else 0) then 1 else 0) = 0) ∧
    (A < C + c → (if A / m64 < C / m64 + (if A % m64 < C % m64 + c then 1 else 0) then 1 else 0) = 1) := by
  have hm := hm64
  have h1 := Nat.div_add_mod A m64
  have h2 := Nat.div_add_mod C m64
  have h3 := Nat.mod_lt A (show 0 < m64 by omega)
  have h4 := Nat.mod_lt C (show 0 < m64 by omega)
  have h5 : A / m64 < m64 := Nat.div_lt_of_lt_mul h
  have h6 : C / m64 < m64 := Nat.div_lt_of_lt_mul hC
  rw [hm] at *
  constructor
  · intro h7
    refine ⟨?_, ?_, ?_⟩
    · split <;> omega
    · omega
    · split <;> split <;> omega
  · intro h7
    split <;> split <;> omega


/-! ### The steps of a sum -/
def subX (a b : LExact) (c : Int) : LExact :=
  let l := sub64 a.lo b.lo c
  let h := sub64 a.hi b.hi l.2
  cond ((h.2 : Int) != 0)
    (let l2 := sub64 0 l.1 0
     ⟨!a.neg, (sub64 0 h.1 l2.2).1, l2.1, a.e, b.more⟩)
    ⟨a.neg, h.1, l.1, a.e, b.more⟩
def subX.ok (a b : LExact) (c : Int) : Bool :=
  let l := sub64 a.lo b.lo c
  cond (sub64.ok a.lo b.lo c)
    (let h := sub64 a.hi b.hi l.2
     cond (sub64.ok a.hi b.hi l.2)
      (cond ((h.2 : Int) != 0)
        (cond (sub64.ok 0 l.1 0) (cond (sub64.ok 0 h.1 (sub64 0 l.1 0).2) true false) false)
        true)
      false)
    false
def mergeX (a b : LExact) : LExact :=
  cond (a.neg == b.neg)
    (let l := add64 a.lo b.lo 0
     ⟨a.neg, (add64 a.hi b.hi l.2).1, l.1, a.e, b.more⟩)
    (cond b.more (subX a b 1) (subX a b 0))
def mergeX.ok (a b : LExact) : Bool :=
  cond (a.neg == b.neg)
    (cond (add64.ok a.lo b.lo 0) (cond (add64.ok a.hi b.hi (add64 a.lo b.lo 0).2) true false) false)
    (cond b.more (subX.ok a b 1) (subX.ok a b 0))
def alignX (a b : LExact) : LExact :=
  let a2 := round_exact_left M0 a (IntKind.i64.wrap (126 - (round_exact_length M0 a)))
  cond (decide (b.e > a2.e))
    (mergeX a2 (round_exact_left M0 b (IntKind.i64.wrap (b.e - a2.e))))
    (mergeX a2 (round_exact_right M0 b (IntKind.i64.wrap (a2.e - b.e))))
def alignX.ok (a b : LExact) : Bool :=
  cond (round_exact_length.ok M0 a)
    (let n := IntKind.i64.wrap (126 - (round_exact_length M0 a))
     let a2 := round_exact_left M0 a n
     cond (round_exact_left.ok M0 a n)
      (cond (decide (b.e > a2.e))
        (let m := IntKind.i64.wrap (b.e - a2.e)
         cond (round_exact_left.ok M0 b m) (mergeX.ok a2 (round_exact_left M0 b m)) false)
        (let m := IntKind.i64.wrap (a2.e - b.e)
         cond (round_exact_right.ok M0 b m) (mergeX.ok a2 (round_exact_right M0 b m)) false))
      false)
    false
def stepX (a b : LExact) : LExact := cond (round_exact_zero M0 b) a (alignX a b)
def stepX.ok (a b : LExact) : Bool := cond (round_exact_zero M0 b) true (alignX.ok a b)
def sumX (a b : LExact) : LExact :=
  cond (round_exact_zero M0 a) (stepX b a)
    (cond (!(round_exact_zero M0 b))
      (cond (decide (IntKind.i64.wrap (a.e + round_exact_length M0 a) < IntKind.i64.wrap (b.e + round_exact_length M0 b))) (stepX b a) (stepX a b))
      (stepX a b))
theorem sumX_eq (a b : LExact) : round_sum M0 a b = sumX a b := rfl
def sumX.ok (a b : LExact) : Bool :=
  cond (round_exact_zero M0 a) (stepX.ok b a)
    (cond (!(round_exact_zero M0 b))
      (cond (round_exact_length.ok M0 a)
        (cond (round_exact_length.ok M0 b)
          (cond (decide (IntKind.i64.wrap (a.e + round_exact_length M0 a) < IntKind.i64.wrap (b.e + round_exact_length M0 b))) (stepX.ok b a) (stepX.ok a b))
          false)
        false)
      (stepX.ok a b))
theorem sumX_ok (a b : LExact) : round_sum.ok M0 a b = sumX.ok a b := rfl

theorem sub_ex {na nb mb : Bool} {A C c : Nat} (hA : A < m64 * m64) (hC : C < m64 * m64) (hc : c ≤ 1) (e e2 : Int) :
    (C + c ≤ A → subX (ex na A e false) (ex nb C e2 mb) (c : Int) = ex na (A - C - c) e mb) ∧
    (c = 0 → A < C → subX (ex na A e false) (ex nb C e2 mb) 0 = ex (!na) (C - A) e mb) ∧
    subX.ok (ex na A e false) (ex nb C e2 mb) (c : Int) = true := by
  have hm := hm64
  obtain ⟨w1, w2⟩ := sub_words (c := c) hA hC hc
  have hlo : ∀ n N e m, (ex n N e m).lo = ((N % m64 : Nat) : Int) := fun _ _ _ _ => rfl
  have hhi : ∀ n N e m, (ex n N e m).hi = ((N / m64 : Nat) : Int) := fun _ _ _ _ => rfl
  have hsub : ∀ x y : Nat, sub64 0 (x : Int) (y : Int) = ((((0 + m64 - x - y) % m64 : Nat) : Int), ((if 0 < x + y then 1 else 0 : Nat) : Int)) := fun x y => sub64_nat 0 x y
  refine ⟨fun h => ?_, fun h0 h => ?_, ?_⟩
  · obtain ⟨a1, a2, a3⟩ := w1 h
    unfold subX
    rw [hlo, hlo, hhi, hhi, sub64_nat]
    dsimp only
    rw [sub64_nat]
    dsimp only
    rw [a1, a2, a3]
    rfl
  · subst h0
    have a4 := w2 (by omega)
    unfold subX
    rw [hlo, hlo, hhi, hhi, show (0 : Int) = ((0 : Nat) : Int) from rfl, sub64_nat]
    dsimp only
    rw [sub64_nat]
    dsimp only
    rw [a4]
    have e1 : (((1 : Nat) : Int) != ((0 : Nat) : Int)) = true := rfl
    rw [e1, cond_true, sub64_nat]
    dsimp only
    rw [sub64_nat]
    dsimp only
    have h1 := Nat.div_add_mod A m64
    have h2 := Nat.div_add_mod C m64
    have h3 := Nat.mod_lt A (show 0 < m64 by omega)
    have h4 := Nat.mod_lt C (show 0 < m64 by omega)
    have h5 : A / m64 < m64 := Nat.div_lt_of_lt_mul hA
    have h6 : C / m64 < m64 := Nat.div_lt_of_lt_mul hC
    unfold ex
    rw [hm] at *
    congr 1
    · congr 1
      repeat' split
      all_goals omega
    · congr 1
      omega
  · unfold subX.ok
    rw [hlo, hlo, hhi, hhi]
    have o1 : ∀ x y : Int, sub64.ok x y (c : Int) = true := fun x y => decide_eq_true (by omega)
    have o2 : ∀ (x y : Int) (p : Prop) [Decidable p], sub64.ok x y ((if p then 1 else 0 : Nat) : Int) = true := fun x y p _ => decide_eq_true (by split <;> omega)
    have o3 : ∀ x y : Int, sub64.ok x y 0 = true := fun x y => rfl
    rw [o1, sub64_nat]
    dsimp only
    rw [o2, sub64_nat]
    dsimp only
    rw [o3]
    rw [show (0 : Int) = ((0 : Nat) : Int) from rfl, sub64_nat]
    dsimp only
    rw [o2]
    simp

end Go.Lan
