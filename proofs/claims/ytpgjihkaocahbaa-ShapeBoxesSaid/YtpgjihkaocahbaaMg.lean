/- An exact number, rounded to a float. -/
import Derived.Test.YtpgjihkaocahbaaMf
namespace Go.Lan

attribute [local irreducible] B

theorem plain_neg {neg : Bool} {q : Nat} (h : q ≤ I) : cond neg (round_plain M0 (M0.neg q)) (round_plain M0 q) = F (sg neg q) := by
  have h1 : M0.neg q = wd true q := neg_wd (neg := false) h
  have p1 := plain_wd (neg := true) h
  have p2 := plain_wd (neg := false) h
  unfold round_plain
  rw [h1]
  cases neg
  · exact p2
  · exact p1

/-- The last steps: an infinite one is brought back, if it may not grow. -/
def fin (grow neg : Bool) (x : Nat) : Nat :=
  cond (math_IsInf M0 x 0)
    (cond (!grow)
      (cond neg (round_plain M0 (M0.neg 9218868437227405311)) (round_plain M0 9218868437227405311))
      (cond neg (round_plain M0 (M0.neg x)) (round_plain M0 x)))
    (cond neg (round_plain M0 (M0.neg x)) (round_plain M0 x))

theorem fin_eq {grow neg : Bool} {q : Nat} (h : q ≤ I) : fin grow neg q = F (sg neg (if grow then q else min q (I - 1))) := by
  have hI := I_eq
  unfold fin
  have h1 := isInf_wd (neg := false) h
  rw [wd_false] at h1
  rw [h1]
  have hm : (9218868437227405311 : Nat) = I - 1 := by omega
  rw [hm, plain_neg (neg := neg) h, plain_neg (neg := neg) (q := I - 1) (by omega)]
  by_cases h2 : q = I
  · rw [decide_eq_true h2, cond_true]
    cases grow
    · simp only [Bool.not_false, cond_true, Bool.false_eq_true, if_false]
      rw [h2, Nat.min_eq_right (by omega)]
    · simp
  · rw [decide_eq_false h2, cond_false]
    cases grow
    · simp only [Bool.false_eq_true, if_false]
      rw [Nat.min_eq_left (by omega)]
    · simp


def finok (_ _ : Bool) (x : Nat) : Bool := cond (math_IsInf.ok M0 x 0) true false

theorem finok_eq {grow neg : Bool} {q : Nat} (h : q ≤ I) : finok grow neg q = true := by
  unfold finok
  have := isInfok_wd (neg := false) h
  rw [wd_false] at this
  rw [this]; rfl

/-- Rounded: what is shifted out is remembered, and lifts the number where it is to grow. -/
theorem to_steps {neg more down : Bool} {N : Nat} (hN : N < m64 * m64) {e : Int} (he : -5000 < e ∧ e < 5000) :
    (∀ n : Nat, 0 < n → (n : Int) = max ((blen N : Int) - 53) (-1074 - e) →
      round_exact_to M0 (ex neg N e more) down = fin (neg == down) neg (math_Ldexp M0 (M0.ofInt ((N / 2 ^ n + ((more || decide (N % 2 ^ n ≠ 0)) && (neg == down)).toNat : Nat) : Int)) (e + n)) ∧
      (math_Ldexp.ok M0 (M0.ofInt ((N / 2 ^ n + ((more || decide (N % 2 ^ n ≠ 0)) && (neg == down)).toNat : Nat) : Int)) (e + n) = true → finok (neg == down) neg (math_Ldexp M0 (M0.ofInt ((N / 2 ^ n + ((more || decide (N % 2 ^ n ≠ 0)) && (neg == down)).toNat : Nat) : Int)) (e + n)) = true →
        round_exact_to.ok M0 (ex neg N e more) down = true)) ∧
    (max ((blen N : Int) - 53) (-1074 - e) ≤ 0 → more = false →
      round_exact_to M0 (ex neg N e more) down = fin (neg == down) neg (math_Ldexp M0 (M0.ofInt (N : Int)) e) ∧
      (math_Ldexp.ok M0 (M0.ofInt (N : Int)) e = true → finok (neg == down) neg (math_Ldexp M0 (M0.ofInt (N : Int)) e) = true → round_exact_to.ok M0 (ex neg N e more) down = true)) := by
  have hm := hm64
  have hL : blen N ≤ 128 := blen_le.2 (by rw [m64_eq, ← Nat.pow_add] at hN; exact hN)
  obtain ⟨l1, l2⟩ := length_ex neg hN e more
  have hx5 : ∀ z : Int, z = max ((blen N : Int) - 53) (-1074 - e) → (if IntKind.i64.wrap (-1074 - (ex neg N e more).e) > IntKind.i64.wrap (round_exact_length M0 (ex neg N e more) - 53) then IntKind.i64.wrap (-1074 - (ex neg N e more).e) else IntKind.i64.wrap (round_exact_length M0 (ex neg N e more) - 53)) = z := by
    intro z hz
    rw [l1, show (ex neg N e more).e = e from rfl, i_in (n := -1074 - e) (by omega), i_in (n := (blen N : Int) - 53) (by omega)]
    split <;> omega
  constructor
  · intro n h0 hn
    have h5 := hx5 n hn
    obtain ⟨r1, r2⟩ := right_ex neg hN h0 (by omega) e (by omega) more
    have hd0 : decide ((n : Int) > 0) = true := decide_eq_true (by omega)
    -- what is left is a word
    have hlt : N / 2 ^ n + 1 < m64 := by
      have h1 : N < 2 ^ (n + 53) := blen_le.1 (by omega)
      have h2 : N / 2 ^ n < 2 ^ 53 := Nat.div_lt_of_lt_mul (by rw [← Nat.pow_add]; exact h1)
      omega
    rw [ex_small neg (show N / 2 ^ n < m64 by omega)] at r1
    generalize hmr : (more || decide (N % 2 ^ n ≠ 0)) = mr at r1 ⊢
    generalize hgr : (neg == down) = gr
    have hw : IntKind.u64.wrap (((N / 2 ^ n : Nat) : Int) + 1) = ((N / 2 ^ n + 1 : Nat) : Int) := u_wrap_lt hlt
    constructor
    · unfold round_exact_to
      dsimp only
      rw [h5, hd0, cond_true, r1]
      dsimp only
      rw [show (ex neg N e more).neg = neg from rfl, hgr, hw]
      cases mr
      · rw [cond_false]; rfl
      · cases gr
        · rw [cond_true, cond_false]; rfl
        · rw [cond_true, cond_true]; rfl
    · intro o1 o2
      unfold round_exact_to.ok
      dsimp only
      rw [h5, l2, hd0, cond_true, cond_true, r1, r2, cond_true]
      dsimp only
      rw [show (ex neg N e more).neg = neg from rfl, hgr, hw]
      cases mr
      · rw [cond_false]
        simp only [Bool.false_and, Bool.toNat_false, Nat.add_zero] at o1 o2
        rw [o1, cond_true]
        exact o2
      · cases gr
        · rw [cond_true, cond_false]
          simp only [Bool.and_false, Bool.toNat_false, Nat.add_zero] at o1 o2
          rw [o1, cond_true]
          exact o2
        · rw [cond_true, cond_true]
          simp only [Bool.and_true, Bool.toNat_true] at o1 o2
          rw [o1, cond_true]
          exact o2
  · intro hle hmore
    subst hmore
    have h5 := hx5 _ rfl
    have hd0 : decide (max ((blen N : Int) - 53) (-1074 - e) > 0) = false := decide_eq_false (by omega)
    have hlt : N < m64 := by
      have h1 : N < 2 ^ 53 := blen_le.1 (by omega)
      omega
    generalize hgr : (neg == down) = gr
    have hlo : (ex neg N e false).lo = (N : Int) := by rw [ex_small neg hlt]
    constructor
    · unfold round_exact_to
      dsimp only
      rw [h5, hd0, cond_false, show (ex neg N e false).more = false from rfl, cond_false, show (ex neg N e false).neg = neg from rfl, hgr, hlo]
      rfl
    · intro o1 o2
      unfold round_exact_to.ok
      dsimp only
      rw [h5, l2, hd0, cond_true, cond_false, show (ex neg N e false).more = false from rfl, cond_false, hlo, show (ex neg N e false).e = e from rfl, o1, cond_true]
      exact o2

end Go.Lan
