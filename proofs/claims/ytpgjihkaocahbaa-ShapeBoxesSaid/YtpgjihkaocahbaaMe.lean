/- Exact numbers: out of a float, shifted to the left and to the right. -/
import Derived.Test.YtpgjihkaocahbaaMd
namespace Go.Lan

theorem hm64 : m64 = 18446744073709551616 := rfl

theorem split_wd {neg : Bool} {r : Nat} (h : r < I) : ∃ m e : Nat, round_split M0 (wd neg r) = ex neg m ((e : Int) - 1074) false ∧ V r = m * 2 ^ e ∧ r = e * B + m ∧ m < 2 * B ∧ (e = 0 ∨ B ≤ m) ∧ e < 2046 := by
  have hI := I_eq
  have hB : B = 4503599627370496 := rfl
  have hm := hm64
  have hw : wd neg r < m64 := by unfold wd; split <;> omega
  have hx1 : f64bits (wd neg r) = ((wd neg r : Nat) : Int) := rfl
  -- the three fields
  have f1 : M0.and .u64 ((wd neg r : Nat) : Int) 4503599627370495 = ((wd neg r % 4503599627370496 : Nat) : Int) := by
    have := u_and hw (show 4503599627370495 < m64 by omega)
    rw [show (4503599627370495 : Nat) = 2 ^ 52 - 1 by decide, and_low] at this
    exact this
  have f2 : shrV .u64 ((wd neg r : Nat) : Int) 52 = ((wd neg r / 4503599627370496 : Nat) : Int) := u_shr hw 52
  have f3 : M0.and .u64 ((wd neg r / 4503599627370496 : Nat) : Int) 2047 = ((wd neg r / 4503599627370496 % 2048 : Nat) : Int) := by
    have := u_and (a := wd neg r / 4503599627370496) (by omega) (show 2047 < m64 by omega)
    rw [show (2047 : Nat) = 2 ^ 11 - 1 by decide, and_low] at this
    exact this
  have f4 : shrV .u64 ((wd neg r : Nat) : Int) 63 = ((wd neg r / 9223372036854775808 : Nat) : Int) := u_shr hw 63
  have g1 : wd neg r % 4503599627370496 = r % B := by rw [hB]; unfold wd; split <;> omega
  have g2 : wd neg r / 4503599627370496 % 2048 = r / B := by rw [hB]; unfold wd; split <;> omega
  have g3 : (((wd neg r / 9223372036854775808 : Nat) : Int) != 0) = neg := by
    rw [Bool.eq_iff_iff, bne_iff_ne]
    cases neg
    · simp only [wd, Bool.false_eq_true, if_false, iff_false, ne_eq, Decidable.not_not]; omega
    · simp only [wd, if_true, iff_true]; omega
  unfold round_split
  dsimp only
  rw [hx1, f1, f2, f3, f4, g1, g2, g3]
  have hlt : r / B < 2047 := by rw [hB]; omega
  have hdm := Nat.div_add_mod r B
  have hml := Nat.mod_lt r B_pos
  rw [i_in (by omega)]
  by_cases h1 : r < B
  · refine ⟨r, 0, ?_, by unfold V; rw [if_pos h1, Nat.pow_zero, Nat.mul_one], by omega, by omega, .inl rfl, by omega⟩
    have e1 : r / B = 0 := Nat.div_eq_of_lt h1
    rw [e1]
    rw [ex_small neg (by omega), Nat.mod_eq_of_lt h1]
    rfl
  · have hge : 1 ≤ r / B := (Nat.le_div_iff_mul_le B_pos).2 (by omega)
    have hre : r = (r / B - 1) * B + (B + r % B) := by
      rw [Nat.sub_mul, Nat.mul_comm (r / B)]
      have : B * 1 ≤ B * (r / B) := Nat.mul_le_mul_left _ hge
      omega
    refine ⟨B + r % B, r / B - 1, ?_, by unfold V; rw [if_neg h1], hre, by omega, .inr (by omega), by omega⟩
    have e1 : (((r / B : Nat) : Int) == 0) = false := by rw [beq_eq_false_iff_ne]; omega
    rw [e1, cond_false, i_in (by omega), ex_small neg (by omega)]
    have e2 : M0.or .u64 ((r % B : Nat) : Int) 4503599627370496 = ((B + r % B : Nat) : Int) := by
      have := u_or (a := r % B) (by omega) (show B < m64 by omega)
      rw [Nat.or_comm] at this
      have h3 := or_add (a := 1) (b := r % B) (k := 52) (by omega)
      rw [show 1 * 2 ^ 52 = B by decide] at h3
      rw [h3] at this
      exact this
    rw [e2]
    congr 1
    omega

theorem left_ex (neg : Bool) {N n : Nat} (h : N * 2 ^ n < m64 * m64) (hn : n < 1000) (e : Int) (he : -100000 < e ∧ e < 100000) (more : Bool) :
    round_exact_left M0 (ex neg N e more) (n : Int) = ex neg (N * 2 ^ n) (e - n) more ∧ round_exact_left.ok M0 (ex neg N e more) (n : Int) = true := by
  have hm := hm64
  have hp := Nat.two_pow_pos n
  unfold round_exact_left round_exact_left.ok
  rw [show (ex neg N e more).e = e from rfl, show (ex neg N e more).neg = neg from rfl, show (ex neg N e more).more = more from rfl, show (ex neg N e more).hi = ((N / m64 : Nat) : Int) from rfl, show (ex neg N e more).lo = ((N % m64 : Nat) : Int) from rfl]
  rw [i_in (n := e - n) (by omega)]
  by_cases h1 : 64 ≤ n
  · rw [decide_eq_true (by omega), cond_true, cond_true, i_in (n := (n : Int) - 64) (by omega), decide_eq_true (by omega), cond_true]
    refine ⟨?_, rfl⟩
    have h2 : N * 2 ^ (n - 64) < m64 := by
      have e1 : 2 ^ n = 2 ^ (n - 64) * m64 := by rw [m64_eq, ← Nat.pow_add]; congr 1; omega
      rw [e1, ← Nat.mul_assoc] at h
      exact Nat.lt_of_mul_lt_mul_right h
    have h3 : N < m64 := Nat.lt_of_le_of_lt (by have := Nat.two_pow_pos (n - 64); exact Nat.le_mul_of_pos_right N this) h2
    have e2 : ((n : Int) - 64) = ((n - 64 : Nat) : Int) := by omega
    rw [Nat.mod_eq_of_lt h3, e2, u_shl, Nat.mod_eq_of_lt h2]
    unfold ex
    have e3 : N * 2 ^ n = N * 2 ^ (n - 64) * m64 := by rw [m64_eq, Nat.mul_assoc, ← Nat.pow_add]; congr 2; omega
    rw [e3, Nat.mul_div_cancel _ (by omega), Nat.mul_mod_left]
    rfl
  · rw [decide_eq_false (by omega), cond_false, cond_false]
    by_cases h2 : 0 < n
    · rw [decide_eq_true (by omega), cond_true, cond_true, decide_eq_true (by omega), cond_true, i_in (n := 64 - (n : Int)) (by omega), decide_eq_true (by omega), cond_true, cond_true]
      refine ⟨?_, rfl⟩
      have hd := Nat.div_add_mod N m64
      have hl : N % m64 < m64 := Nat.mod_lt _ (by omega)
      generalize N / m64 = hi at *
      generalize hlo : N % m64 = lo at *
      have hq : m64 = 2 ^ (64 - n) * 2 ^ n := by rw [m64_eq, ← Nat.pow_add]; congr 1; omega
      have hhi : hi * 2 ^ n < m64 := by
        refine Nat.lt_of_mul_lt_mul_right (a := m64) (Nat.lt_of_le_of_lt ?_ h)
        rw [← hd, Nat.add_mul, Nat.mul_comm m64 hi, Nat.mul_assoc, Nat.mul_assoc, Nat.mul_comm m64]
        exact Nat.le_add_right _ _
      have hhi2 : hi < m64 := Nat.lt_of_le_of_lt (Nat.le_mul_of_pos_right hi hp) hhi
      have hr : lo / 2 ^ (64 - n) < 2 ^ n := Nat.div_lt_of_lt_mul (by rw [← hq]; exact hl)
      have hr2 : lo / 2 ^ (64 - n) < m64 := Nat.lt_of_le_of_lt (Nat.div_le_self _ _) hl
      have e2 : (64 - (n : Int)) = ((64 - n : Nat) : Int) := by omega
      rw [u_shl, e2, u_shr hl, Nat.mod_eq_of_lt hhi, u_or hhi hr2, or_add hr, u_shl]
      have key : N * 2 ^ n = (hi * 2 ^ n + lo / 2 ^ (64 - n)) * m64 + lo * 2 ^ n % m64 := by
        have h3 := Nat.div_add_mod (lo * 2 ^ n) m64
        have h4 : lo * 2 ^ n / m64 = lo / 2 ^ (64 - n) := by
          rw [hq, Nat.mul_div_mul_right _ _ hp]
        rw [h4] at h3
        have h5 : N * 2 ^ n = m64 * (hi * 2 ^ n) + lo * 2 ^ n := by rw [← hd, Nat.add_mul, Nat.mul_assoc]
        rw [h5, Nat.add_mul, Nat.mul_comm (hi * 2 ^ n) m64, Nat.mul_comm (lo / 2 ^ (64 - n)) m64]
        omega
      unfold ex
      have hl2 : lo * 2 ^ n % m64 < m64 := Nat.mod_lt _ (by omega)
      rw [key, Nat.mul_comm _ m64, Nat.mul_add_div (by omega), Nat.mul_add_mod, Nat.div_eq_of_lt hl2, Nat.mod_eq_of_lt hl2, Nat.add_zero]
    · have : n = 0 := by omega
      subst this
      rw [decide_eq_false (by omega), cond_false, cond_false]
      refine ⟨?_, rfl⟩
      rw [Nat.pow_zero, Nat.mul_one]
      rfl

theorem right_ex (neg : Bool) {N n : Nat} (h : N < m64 * m64) (h0 : 0 < n) (hn : n < 100000) (e : Int) (he : -100000 < e ∧ e < 100000) (more : Bool) :
    round_exact_right M0 (ex neg N e more) (n : Int) = ex neg (N / 2 ^ n) (e + n) (more || decide (N % 2 ^ n ≠ 0)) ∧ round_exact_right.ok M0 (ex neg N e more) (n : Int) = true := by
  have hm := hm64
  have hp := Nat.two_pow_pos n
  have hd := Nat.div_add_mod N m64
  have hl : N % m64 < m64 := Nat.mod_lt _ (by omega)
  have hh : N / m64 < m64 := Nat.div_lt_of_lt_mul h
  generalize hmr : decide (N % 2 ^ n ≠ 0) = mr
  unfold round_exact_right round_exact_right.ok
  rw [show (ex neg N e more).e = e from rfl, show (ex neg N e more).neg = neg from rfl, show (ex neg N e more).more = more from rfl, show (ex neg N e more).hi = ((N / m64 : Nat) : Int) from rfl, show (ex neg N e more).lo = ((N % m64 : Nat) : Int) from rfl]
  dsimp only
  rw [i_in (n := e + n) (by omega), decide_eq_false (by omega), cond_false, cond_false]
  by_cases h1 : 128 ≤ n
  · rw [decide_eq_true (by omega), cond_true, cond_true]
    refine ⟨?_, rfl⟩
    have hz : (⟨neg, ((N / m64 : Nat) : Int), ((N % m64 : Nat) : Int), e + n, more⟩ : LExact) = ex neg N (e + n) more := rfl
    rw [hz, zero_ex]
    have hlt : N < 2 ^ n := Nat.lt_of_lt_of_le h (by
      rw [m64_eq, ← Nat.pow_add]
      exact Nat.pow_le_pow_right (by omega) h1)
    rw [Nat.mod_eq_of_lt hlt] at hmr
    subst hmr
    rw [Nat.div_eq_of_lt hlt]
    cases more
    · simp only [cond_false, Bool.false_or]
      unfold ex
      simp
    · rfl
  · rw [decide_eq_false (by omega), cond_false, cond_false]
    generalize N / m64 = hi at *
    generalize N % m64 = lo at *
    subst hd
    by_cases h2 : 64 ≤ n
    · rw [decide_eq_true (by omega), cond_true, cond_true, i_in (n := (n : Int) - 64) (by omega), i_in (n := 128 - (n : Int)) (by omega)]
      have d1 : decide (0 ≤ (n : Int) - 64) = true := decide_eq_true (by omega)
      have d2 : decide (0 ≤ 128 - (n : Int)) = true := decide_eq_true (by omega)
      rw [d1, d2]
      have e2 : ((n : Int) - 64) = ((n - 64 : Nat) : Int) := by omega
      have e3 : (128 - (n : Int)) = ((128 - n : Nat) : Int) := by omega
      rw [e2, u_shr hh, e3, u_shl]
      have hq : 2 ^ n = m64 * 2 ^ (n - 64) := by rw [m64_eq, ← Nat.pow_add]; congr 1; omega
      have hp2 := Nat.two_pow_pos (n - 64)
      have k1 : (m64 * hi + lo) / 2 ^ n = hi / 2 ^ (n - 64) := by
        rw [hq, ← Nat.div_div_eq_div_mul, Nat.mul_add_div (by omega), Nat.div_eq_of_lt hl, Nat.add_zero]
      have k2 : (m64 * hi + lo) % 2 ^ n = m64 * (hi % 2 ^ (n - 64)) + lo := by
        rw [hq, Nat.mod_mul, Nat.mul_add_mod, Nat.mod_eq_of_lt hl, Nat.mul_add_div (by omega), Nat.div_eq_of_lt hl, Nat.add_zero, Nat.add_comm]
      have k3 : hi * 2 ^ (128 - n) % m64 = (hi % 2 ^ (n - 64)) * 2 ^ (128 - n) := by
        have : m64 = 2 ^ (n - 64) * 2 ^ (128 - n) := by rw [m64_eq, ← Nat.pow_add]; congr 1; omega
        rw [this, Nat.mul_mod_mul_right]
      have hs : hi / 2 ^ (n - 64) < m64 := Nat.lt_of_le_of_lt (Nat.div_le_self _ _) hh
      rw [k2] at hmr
      rw [k1, k3, ex_small neg hs]
      have hp3 := Nat.two_pow_pos (128 - n)
      cases more
      · simp only [cond_false, cond_true, Bool.false_or]
        by_cases c1 : lo = 0
        · subst c1
          rw [Nat.add_zero] at hmr
          have c0 : (((0 : Nat) : Int) != 0) = false := rfl
          rw [c0, cond_false, cond_false]
          by_cases c2 : hi % 2 ^ (n - 64) = 0
          · rw [c2] at hmr ⊢
            rw [Nat.mul_zero] at hmr
            subst hmr
            rw [Nat.zero_mul, c0, cond_false, cond_false]
            exact ⟨rfl, rfl⟩
          · have c3 : hi % 2 ^ (n - 64) * 2 ^ (128 - n) ≠ 0 := Nat.mul_ne_zero c2 (by omega)
            have c4 : m64 * (hi % 2 ^ (n - 64)) ≠ 0 := Nat.mul_ne_zero (by omega) c2
            have c5 : (((hi % 2 ^ (n - 64) * 2 ^ (128 - n) : Nat) : Int) != 0) = true := by simp only [bne_iff_ne, ne_eq]; omega
            have c6 : 64 < n := by
              rcases Nat.lt_or_ge 64 n with hlt | hge
              · exact hlt
              · have : n = 64 := by omega
                subst this
                simp [Nat.mod_one] at c2
            rw [decide_eq_true c4] at hmr
            subst hmr
            rw [c5, cond_true, cond_true, decide_eq_true (by omega)]
            exact ⟨rfl, rfl⟩
        · have c3 : (((lo : Nat) : Int) != 0) = true := by simp only [bne_iff_ne, ne_eq]; omega
          rw [decide_eq_true (by omega)] at hmr
          subst hmr
          rw [c3, cond_true, cond_true]
          exact ⟨rfl, rfl⟩
      · simp only [cond_true, Bool.true_or]
        exact ⟨trivial, trivial⟩
    · rw [decide_eq_false (by omega), cond_false, cond_false, i_in (n := 64 - (n : Int)) (by omega), decide_eq_true (by omega), decide_eq_true (by omega)]
      have e2 : (64 - (n : Int)) = ((64 - n : Nat) : Int) := by omega
      rw [e2, u_shr hh, u_shr hl, u_shl, u_shl]
      have hq : m64 = 2 ^ (64 - n) * 2 ^ n := by rw [m64_eq, ← Nat.pow_add]; congr 1; omega
      have hp2 := Nat.two_pow_pos (64 - n)
      have k0 : hi * 2 ^ (64 - n) % m64 = (hi % 2 ^ n) * 2 ^ (64 - n) := by
        have : m64 = 2 ^ n * 2 ^ (64 - n) := by rw [hq, Nat.mul_comm]
        rw [this, Nat.mul_mod_mul_right]
      have k3 : lo * 2 ^ (64 - n) % m64 = (lo % 2 ^ n) * 2 ^ (64 - n) := by
        have : m64 = 2 ^ n * 2 ^ (64 - n) := by rw [hq, Nat.mul_comm]
        rw [this, Nat.mul_mod_mul_right]
      have hlo2 : lo / 2 ^ n < 2 ^ (64 - n) := Nat.div_lt_of_lt_mul (by rw [Nat.mul_comm, ← hq]; exact hl)
      have hhi2 : (hi % 2 ^ n) * 2 ^ (64 - n) < m64 := by
        rw [hq, Nat.mul_comm (2 ^ (64 - n))]
        exact Nat.mul_lt_mul_of_pos_right (Nat.mod_lt _ hp) hp2
      have hlo3 : lo / 2 ^ n < m64 := Nat.lt_of_le_of_lt (Nat.div_le_self _ _) hl
      rw [k0, k3, u_or hlo3 hhi2, Nat.or_comm, or_add hlo2]
      have k1 : (m64 * hi + lo) / 2 ^ n = hi / 2 ^ n * m64 + ((hi % 2 ^ n) * 2 ^ (64 - n) + lo / 2 ^ n) := by
        have e4 : m64 * hi + lo = 2 ^ n * (2 ^ (64 - n) * hi) + lo := by rw [hq, Nat.mul_comm (2 ^ (64 - n)), Nat.mul_assoc]
        rw [e4, Nat.mul_add_div hp]
        have e5 := Nat.div_add_mod hi (2 ^ n)
        have e6 : 2 ^ (64 - n) * hi = hi / 2 ^ n * m64 + (hi % 2 ^ n) * 2 ^ (64 - n) := by
          rw [hq]
          calc 2 ^ (64 - n) * hi = 2 ^ (64 - n) * (2 ^ n * (hi / 2 ^ n) + hi % 2 ^ n) := by rw [e5]
            _ = _ := by rw [Nat.mul_add, Nat.mul_comm (hi % 2 ^ n), ← Nat.mul_assoc, Nat.mul_comm (hi / 2 ^ n)]
        rw [e6]
        omega
      have k2 : (m64 * hi + lo) % 2 ^ n = lo % 2 ^ n := by
        rw [hq, Nat.mul_assoc, Nat.mul_comm (2 ^ n), ← Nat.mul_assoc, Nat.mul_comm, Nat.mul_add_mod]
      have ks : (hi % 2 ^ n) * 2 ^ (64 - n) + lo / 2 ^ n < m64 := by
        have : (hi % 2 ^ n + 1) * 2 ^ (64 - n) ≤ 2 ^ n * 2 ^ (64 - n) := Nat.mul_le_mul_right _ (Nat.mod_lt _ hp)
        rw [Nat.add_mul, Nat.mul_comm (2 ^ n), ← hq] at this
        omega
      rw [k2] at hmr
      rw [k1]
      unfold ex
      rw [Nat.mul_comm _ m64, Nat.mul_add_div (by omega), Nat.mul_add_mod, Nat.div_eq_of_lt ks, Nat.mod_eq_of_lt ks, Nat.add_zero]
      have hmr2 : (((lo % 2 ^ n * 2 ^ (64 - n) : Nat) : Int) != 0) = decide (lo % 2 ^ n ≠ 0) := by
        rw [Bool.eq_iff_iff, bne_iff_ne, decide_eq_true_eq]
        constructor
        · intro h3 h4
          rw [h4] at h3
          simp at h3
        · intro h3
          have := Nat.mul_ne_zero h3 (show 2 ^ (64 - n) ≠ 0 by omega)
          omega
      rw [hmr2, hmr]
      cases more
      · exact ⟨rfl, rfl⟩
      · exact ⟨rfl, rfl⟩

end Go.Lan
