/- An exact number, rounded to a float: what it is. -/
import Derived.Test.YtpgjihkaocahbaaMg
namespace Go.Lan

attribute [local irreducible] B

/-- The place p (and more, if b) of a number that is told by what lies below and above it. -/
theorem place_of {more : Bool} {N : Nat} {e : Int} (hmore : more = true → 53 < blen N ∨ e < -1074) {le ge : Nat → Prop}
    (lemono : ∀ a b, a ≤ b → le b → le a) (gemono : ∀ a b, a ≤ b → ge a → ge b)
    (H : ∀ c E n : Nat, (E : Int) = e + n + 1074 → (le (c * 2 ^ E) ↔ c * 2 ^ n ≤ N) ∧ (ge (c * 2 ^ E) ↔ N + more.toNat ≤ c * 2 ^ n))
    (H0 : more = false → ∀ E : Nat, (E : Int) = e + 1074 → ∀ z, (le z ↔ z ≤ N * 2 ^ E) ∧ (ge z ↔ N * 2 ^ E ≤ z)) :
    (∀ n : Nat, 0 < n → (n : Int) = max ((blen N : Int) - 53) (-1074 - e) → ∃ E p : Nat, (E : Int) = e + n + 1074 ∧ N / 2 ^ n < 2 * B ∧ V p = N / 2 ^ n * 2 ^ E ∧ V (p + 1) = (N / 2 ^ n + 1) * 2 ^ E ∧
      (∀ r, le (V r) ↔ r ≤ p) ∧ (∀ r, ge (V r) ↔ p + (more || decide (N % 2 ^ n ≠ 0)).toNat ≤ r)) ∧
    (max ((blen N : Int) - 53) (-1074 - e) ≤ 0 → more = false ∧ N < 2 * B ∧ ∃ E p : Nat, (E : Int) = e + 1074 ∧ V p = N * 2 ^ E ∧ (∀ r, le (V r) ↔ r ≤ p) ∧ (∀ r, ge (V r) ↔ p ≤ r)) := by
  have hB := B_eq
  constructor
  · intro n h0 hn
    obtain ⟨E, hE⟩ : ∃ E : Nat, (E : Int) = e + n + 1074 := ⟨(e + n + 1074).toNat, by omega⟩
    have hp := Nat.two_pow_pos n
    have hm : N / 2 ^ n < 2 * B := by
      have h1 : N < 2 ^ (n + 53) := blen_le.1 (by omega)
      have h2 : N / 2 ^ n < 2 ^ 53 := Nat.div_lt_of_lt_mul (by rw [← Nat.pow_add]; exact h1)
      omega
    have hEm : E = 0 ∨ B ≤ N / 2 ^ n := by
      rcases Nat.eq_zero_or_pos E with h1 | h1
      · exact .inl h1
      · right
        have h2 : n + 52 < blen N := by omega
        rw [lt_blen, Nat.pow_add, ← hB] at h2
        exact (Nat.le_div_iff_mul_le hp).2 (by rw [Nat.mul_comm]; exact h2)
    have v0 : V (E * B + N / 2 ^ n) = N / 2 ^ n * 2 ^ E := V_mk hm hEm
    have v1 : V (E * B + N / 2 ^ n + 1) = (N / 2 ^ n + 1) * 2 ^ E := by
      rw [Nat.add_assoc]
      exact V_mk' (by omega) (hEm.imp id (by omega))
    have hdm := Nat.div_add_mod N (2 ^ n)
    have hml := Nat.mod_lt N hp
    refine ⟨E, E * B + N / 2 ^ n, hE, hm, v0, v1, fun r => ?_, fun r => ?_⟩
    · constructor
      · intro h
        rcases Nat.lt_or_ge (E * B + N / 2 ^ n) r with h1 | h1
        · exfalso
          have h2 := lemono _ _ (V_le h1) h
          rw [v1, (H _ E n hE).1, Nat.add_mul] at h2
          rw [Nat.mul_comm] at hdm
          omega
        · exact h1
      · intro h
        refine lemono _ _ (V_le h) ?_
        rw [v0, (H _ E n hE).1, Nat.mul_comm]
        omega
    · by_cases hmr : more = true ∨ N % 2 ^ n ≠ 0
      · have e1 : (more || decide (N % 2 ^ n ≠ 0)) = true := by rcases hmr with h | h <;> simp [h]
        rw [e1, Bool.toNat_true]
        constructor
        · intro h
          rcases Nat.lt_or_ge r (E * B + N / 2 ^ n + 1) with h1 | h1
          · exfalso
            have h2 := gemono _ _ (V_le (show r ≤ E * B + N / 2 ^ n by omega)) h
            rw [v0, (H _ E n hE).2, Nat.mul_comm] at h2
            rcases hmr with h3 | h3
            · rw [h3, Bool.toNat_true] at h2; omega
            · omega
          · exact h1
        · intro h
          refine gemono _ _ (V_le h) ?_
          rw [v1, (H _ E n hE).2, Nat.add_mul, Nat.mul_comm]
          have : more.toNat ≤ 1 := by cases more <;> decide
          omega
      · have hm0 : more = false := by cases more <;> simp_all
        have hN0 : N % 2 ^ n = 0 := by
          rcases Nat.eq_zero_or_pos (N % 2 ^ n) with h | h
          · exact h
          · exact absurd (.inr (by omega)) hmr
        subst hm0
        have e1 : (false || decide (N % 2 ^ n ≠ 0)) = false := by simp [hN0]
        rw [e1, Bool.toNat_false, Nat.add_zero]
        -- exact
        have key : ge (V r) ↔ N / 2 ^ n * 2 ^ E ≤ V r := by
          rcases Int.lt_or_le (e + 1074) 0 with h1 | h1
          · obtain ⟨k, hk⟩ : ∃ k : Nat, (k : Int) = -1074 - e := ⟨(-1074 - e).toNat, by omega⟩
            have h2 := (H (V r) 0 k (by omega)).2
            rw [Nat.pow_zero, Nat.mul_one, Bool.toNat_false, Nat.add_zero] at h2
            rw [h2]
            have h3 : N = N / 2 ^ n * 2 ^ E * 2 ^ k := by
              rw [Nat.mul_assoc, ← Nat.pow_add, show E + k = n by omega, Nat.mul_comm]
              omega
            constructor
            · intro h4
              rw [h3] at h4
              exact Nat.le_of_mul_le_mul_right h4 (Nat.two_pow_pos k)
            · intro h4
              rw [h3]
              exact Nat.mul_le_mul_right _ h4
          · obtain ⟨E0, hE0⟩ : ∃ E0 : Nat, (E0 : Int) = e + 1074 := ⟨(e + 1074).toNat, by omega⟩
            rw [(H0 rfl E0 hE0 _).2]
            have h3 : N * 2 ^ E0 = N / 2 ^ n * 2 ^ E := by
              rw [show E = n + E0 by omega, Nat.pow_add, ← Nat.mul_assoc, Nat.mul_comm _ (2 ^ n)]
              congr 1
              omega
            rw [h3]
        rw [key, ← v0, V_le_iff]
  · intro hle
    have hm0 : more = false := by
      cases more
      · rfl
      · have := hmore rfl; omega
    subst hm0
    have hN : N < 2 * B := by
      have h1 : N < 2 ^ 53 := blen_le.1 (by omega)
      omega
    obtain ⟨E, hE⟩ : ∃ E : Nat, (E : Int) = e + 1074 := ⟨(e + 1074).toNat, by omega⟩
    obtain ⟨p, hp⟩ := rung_of (show N ≤ 2 * B by omega) E
    refine ⟨rfl, hN, E, p, hE, hp, fun r => ?_, fun r => ?_⟩
    · rw [(H0 rfl E hE _).1, ← hp, V_le_iff]
    · rw [(H0 rfl E hE _).2, ← hp, V_le_iff]

theorem to_spec {neg more down : Bool} {N : Nat} (hN : N < m64 * m64) {e : Int} (he : -5000 < e ∧ e < 5000) (hmore : more = true → 53 < blen N ∨ e < -1074) {le ge : Nat → Prop}
    (lemono : ∀ a b, a ≤ b → le b → le a) (gemono : ∀ a b, a ≤ b → ge a → ge b)
    (H : ∀ c E n : Nat, (E : Int) = e + n + 1074 → (le (c * 2 ^ E) ↔ c * 2 ^ n ≤ N) ∧ (ge (c * 2 ^ E) ↔ N + more.toNat ≤ c * 2 ^ n))
    (H0 : more = false → ∀ E : Nat, (E : Int) = e + 1074 → ∀ z, (le z ↔ z ≤ N * 2 ^ E) ∧ (ge z ↔ N * 2 ^ E ≤ z)) :
    ∃ q, round_exact_to M0 (ex neg N e more) down = F (sg neg q) ∧ round_exact_to.ok M0 (ex neg N e more) down = true ∧
      (neg = down → q ≤ I ∧ (q = I ∨ ge (V q)) ∧ ∀ r, r < q → ¬ ge (V r)) ∧ (neg ≠ down → q < I ∧ le (V q) ∧ ∀ r, q < r → r < I → ¬ le (V r)) := by
  have hI := I_eq
  have hB := B_eq
  obtain ⟨s1, s2⟩ := to_steps (neg := neg) (more := more) (down := down) hN he
  obtain ⟨t1, t2⟩ := place_of hmore lemono gemono H H0
  have hL : blen N ≤ 128 := blen_le.2 (by rw [m64_eq, ← Nat.pow_add] at hN; exact hN)
  -- from the place to the float
  have done : ∀ (p : Nat) (b : Bool), (∀ r, le (V r) ↔ r ≤ p) → (∀ r, ge (V r) ↔ p + b.toNat ≤ r) →
      round_exact_to M0 (ex neg N e more) down = fin (neg == down) neg (min (p + (b && (neg == down)).toNat) I) →
      (finok (neg == down) neg (min (p + (b && (neg == down)).toNat) I) = true → round_exact_to.ok M0 (ex neg N e more) down = true) →
      ∃ q, round_exact_to M0 (ex neg N e more) down = F (sg neg q) ∧ round_exact_to.ok M0 (ex neg N e more) down = true ∧
      (neg = down → q ≤ I ∧ (q = I ∨ ge (V q)) ∧ ∀ r, r < q → ¬ ge (V r)) ∧ (neg ≠ down → q < I ∧ le (V q) ∧ ∀ r, q < r → r < I → ¬ le (V r)) := by
    intro p b hle hge hto hok
    rw [fin_eq (Nat.min_le_right _ _)] at hto
    refine ⟨_, hto, hok (finok_eq (Nat.min_le_right _ _)), fun hg => ?_, fun hg => ?_⟩
    · have e1 : (neg == down) = true := by simp [hg]
      rw [e1, if_pos rfl, Bool.and_true]
      refine ⟨Nat.min_le_right _ _, ?_, fun r hr => ?_⟩
      · rw [hge]
        omega
      · rw [hge]
        omega
    · have e1 : (neg == down) = false := by simp [hg]
      rw [e1, if_neg (by simp), Bool.and_false, Bool.toNat_false, Nat.add_zero]
      refine ⟨by omega, ?_, fun r hr hr2 => ?_⟩
      · rw [hle]
        omega
      · rw [hle]
        omega
  by_cases hc : max ((blen N : Int) - 53) (-1074 - e) ≤ 0
  · obtain ⟨rfl, hlt, E, p, hE, hv, hle, hge⟩ := t2 hc
    obtain ⟨u1, u2⟩ := s2 hc rfl
    have hE' : e = (E : Int) - 1074 := by omega
    have hld : math_Ldexp M0 (M0.ofInt (N : Int)) e = (min p I : Nat) ∧ math_Ldexp.ok M0 (M0.ofInt (N : Int)) e = true := by
      rw [hE']
      by_cases h0 : N = 0
      · subst h0
        rw [Nat.zero_mul] at hv
        have : p = 0 := V_eqz.1 hv
        subst this
        rw [Nat.min_eq_left (Nat.zero_le _)]
        exact ldexp_zero _
      · exact ldexp_nat h0 (by omega) (by omega) hv
    rw [hld.1] at u1 u2
    exact done p false hle (by simpa using hge) (by simpa using u1) (by simpa using u2 hld.2)
  · obtain ⟨n, hn⟩ : ∃ n : Nat, (n : Int) = max ((blen N : Int) - 53) (-1074 - e) := ⟨(max ((blen N : Int) - 53) (-1074 - e)).toNat, by omega⟩
    obtain ⟨E, p, hE, hm, v0, v1, hle, hge⟩ := t1 n (by omega) hn
    obtain ⟨u1, u2⟩ := s1 n (by omega) hn
    generalize (more || decide (N % 2 ^ n ≠ 0)) = b at *
    have hE' : e + n = (E : Int) - 1074 := by omega
    have hv : V (p + (b && (neg == down)).toNat) = (N / 2 ^ n + (b && (neg == down)).toNat) * 2 ^ E := by
      cases (b && (neg == down))
      · exact v0
      · exact v1
    have hb1 : (b && (neg == down)).toNat ≤ 1 := by cases (b && (neg == down)) <;> decide
    rw [hE'] at u1 u2
    have hld : math_Ldexp M0 (M0.ofInt ((N / 2 ^ n + (b && (neg == down)).toNat : Nat) : Int)) ((E : Int) - 1074) = (min (p + (b && (neg == down)).toNat) I : Nat) ∧ math_Ldexp.ok M0 (M0.ofInt ((N / 2 ^ n + (b && (neg == down)).toNat : Nat) : Int)) ((E : Int) - 1074) = true := by
      by_cases h0 : N / 2 ^ n + (b && (neg == down)).toNat = 0
      · rw [h0, Nat.zero_mul] at hv
        rw [h0, V_eqz.1 hv, Nat.min_eq_left (Nat.zero_le _)]
        exact ldexp_zero _
      · exact ldexp_nat h0 (by omega) (by omega) hv
    rw [hld.1] at u1 u2
    exact done p b hle hge u1 (u2 hld.2)

end Go.Lan
