/- Rungs: the sizes of the floats, in units of the least one; and the model's rounding of a number that is a float. -/
import GoSem.Core.Float
namespace Go.Lan

def B : Nat := 4503599627370496
def I : Nat := 2047 * B
theorem B_eq : B = 2 ^ 52 := rfl
theorem B_val : B = 4503599627370496 := rfl
theorem B_pos : 0 < B := by decide

/-- The size of a rung. -/
def V (r : Nat) : Nat := if r < B then r else (B + r % B) * 2 ^ (r / B - 1)

theorem V_mk {e m : Nat} (h : m < 2 * B) (h2 : e = 0 ∨ B ≤ m) : V (e * B + m) = m * 2 ^ e := by
  have hB := B_pos
  unfold V
  rcases Nat.lt_or_ge m B with hm | hm
  · have : e = 0 := by omega
    subst this
    simp [hm]
  · rw [if_neg (by have := Nat.zero_le (e * B); omega)]
    have e1 : e * B + m = (m - B) + B * (e + 1) := by rw [Nat.mul_add, Nat.mul_comm B e]; omega
    have e2 : (e * B + m) % B = m - B := by rw [e1, Nat.add_mul_mod_self_left, Nat.mod_eq_of_lt (by omega)]
    have e3 : (e * B + m) / B = e + 1 := by rw [e1, Nat.add_mul_div_left _ _ hB, Nat.div_eq_of_lt (by omega)]; omega
    rw [e2, e3, show B + (m - B) = m by omega, Nat.add_sub_cancel]

theorem V_mk' {e m : Nat} (h : m ≤ 2 * B) (h2 : e = 0 ∨ B ≤ m) : V (e * B + m) = m * 2 ^ e := by
  rcases Nat.lt_or_ge m (2 * B) with hm | hm
  · exact V_mk hm h2
  · have : m = 2 * B := by omega
    subst this
    have hB := B_pos
    rw [show e * B + 2 * B = (e + 1) * B + B by rw [Nat.add_mul]; omega, V_mk (by omega) (.inr (Nat.le_refl _)), Nat.pow_succ]
    rw [Nat.mul_comm 2 B, Nat.mul_assoc, Nat.mul_comm 2]

/-- Each rung's two numbers. -/
theorem rung_mk (r : Nat) : ∃ e m, r = e * B + m ∧ m < 2 * B ∧ (e = 0 ∨ B ≤ m) := by
  have hB := B_pos
  rcases Nat.lt_or_ge r B with h | h
  · exact ⟨0, r, by omega, by omega, .inl rfl⟩
  · have h1 := Nat.div_add_mod r B
    have h2 := Nat.mod_lt r hB
    have h3 : 1 ≤ r / B := (Nat.le_div_iff_mul_le hB).2 (by omega)
    refine ⟨r / B - 1, B + r % B, ?_, by omega, .inr (by omega)⟩
    rw [Nat.sub_mul, Nat.mul_comm (r / B)]
    have : B * 1 ≤ B * (r / B) := Nat.mul_le_mul_left _ h3
    omega

theorem V_succ (r : Nat) : ∃ e m, r = e * B + m ∧ V r = m * 2 ^ e ∧ V (r + 1) = (m + 1) * 2 ^ e := by
  obtain ⟨e, m, rfl, h, h2⟩ := rung_mk r
  refine ⟨e, m, rfl, V_mk h h2, ?_⟩
  rw [Nat.add_assoc, V_mk' (by omega) (h2.imp id (by omega))]

theorem V_lt_succ (r : Nat) : V r < V (r + 1) := by
  obtain ⟨e, m, _, h1, h2⟩ := V_succ r
  rw [h1, h2, Nat.add_mul, Nat.one_mul]
  have := Nat.two_pow_pos e
  omega

theorem V_lt {r s : Nat} (h : r < s) : V r < V s := by
  induction s with
  | zero => omega
  | succ s ih =>
    rcases Nat.lt_or_ge r s with h1 | h1
    · exact Nat.lt_trans (ih h1) (V_lt_succ s)
    · have : r = s := by omega
      subst this
      exact V_lt_succ r

theorem V_le {r s : Nat} (h : r ≤ s) : V r ≤ V s := by
  rcases Nat.lt_or_ge r s with h1 | h1
  · exact Nat.le_of_lt (V_lt h1)
  · rw [show r = s by omega]
    exact Nat.le_refl _

theorem V_le_iff {r s : Nat} : V r ≤ V s ↔ r ≤ s := ⟨fun h => by
  rcases Nat.lt_or_ge s r with h1 | h1
  · have := V_lt h1; omega
  · exact h1, V_le⟩
theorem V_lt_iff {r s : Nat} : V r < V s ↔ r < s := ⟨fun h => by
  rcases Nat.lt_or_ge r s with h1 | h1
  · exact h1
  · have := V_le h1; omega, V_lt⟩
theorem V_inj {r s : Nat} (h : V r = V s) : r = s := by
  have h1 := V_le_iff.1 (Nat.le_of_eq h)
  have h2 := V_le_iff.1 (Nat.le_of_eq h.symm)
  omega
theorem V_zero : V 0 = 0 := rfl
theorem le_V (r : Nat) : r ≤ V r := by
  induction r with
  | zero => exact Nat.zero_le _
  | succ r ih => have := V_lt_succ r; omega

/-- Every m * 2 ^ e of at most 53 digits is a rung's size. -/
theorem rung_of {m : Nat} (h : m ≤ 2 * B) (e : Nat) : ∃ r, V r = m * 2 ^ e := by
  induction e generalizing m with
  | zero => exact ⟨m, by have := V_mk' (e := 0) h (.inl rfl); simpa using this⟩
  | succ e ih =>
    rcases Nat.lt_or_ge m B with h1 | h1
    · obtain ⟨r, hr⟩ := ih (m := 2 * m) (by omega)
      exact ⟨r, by rw [hr, Nat.pow_succ, Nat.mul_comm 2 m, Nat.mul_assoc, Nat.mul_comm 2]⟩
    · exact ⟨(e + 1) * B + m, V_mk' h (.inr h1)⟩

/-! ### The model's rounding -/
theorem log2_mul_pow {m : Nat} (h : m ≠ 0) (k : Nat) : (m * 2 ^ k).log2 = m.log2 + k := by
  have hp := Nat.two_pow_pos k
  have hne : m * 2 ^ k ≠ 0 := Nat.mul_ne_zero h (by omega)
  rw [Nat.log2_eq_iff hne]
  have h1 := Nat.log2_self_le h
  have h2 := Nat.lt_log2_self (n := m)
  constructor
  · rw [Nat.pow_add]; exact Nat.mul_le_mul_right _ h1
  · rw [show m.log2 + k + 1 = (m.log2 + 1) + k by omega, Nat.pow_add]
    exact Nat.mul_lt_mul_of_pos_right h2 hp

theorem cut_exact (neg : Bool) {m : Nat} (h : m ≠ 0) (k : Nat) : Ieee.Toward.even.cut neg (m * 2 ^ k) k = m := by
  have hp := Nat.two_pow_pos k
  have hmin : min k ((m * 2 ^ k).log2 + 2) = k := by
    rw [log2_mul_pow h]; omega
  simp only [Ieee.Toward.cut, hmin, Nat.shiftLeft_eq, Nat.one_mul]
  rw [Nat.mul_div_cancel _ hp, Nat.mul_mod_left]
  have : (2 ^ k == 0) = false := by rw [beq_eq_false_iff_ne]; omega
  simp [this]

/-- Of a number that is a float's the rounding gives that float. -/
theorem nearest_exact (neg : Bool) {r mag : Nat} {place : Int} (hr : r < I) {k j : Nat} (hp : place = (k : Int) - j - 1074) (h : mag * 2 ^ k = V r * 2 ^ j) : Ieee.double.nearest neg mag place = Ieee.double.word neg r := by
  have hk := Nat.two_pow_pos k
  have hj := Nat.two_pow_pos j
  unfold Ieee.Format.nearest
  by_cases h0 : mag = 0
  · rw [if_pos h0]
    rw [h0, Nat.zero_mul] at h
    have hz : V r = 0 := by
      rcases Nat.mul_eq_zero.1 h.symm with e | e
      · exact e
      · omega
    have := le_V r
    rw [show r = 0 by omega]
  rw [if_neg h0]
  have hl : Ieee.double.leastPlace = -1074 := by decide
  have hf : Ieee.double.fractionBits = 52 := rfl
  have hb : Ieee.double.binade = B := by decide
  have hi : Ieee.double.infRung = I := by decide
  obtain ⟨e, m, rfl, hm, hem⟩ := rung_mk r
  rw [V_mk hm hem] at h
  have hm0 : m ≠ 0 := by
    intro e0
    rw [e0, Nat.zero_mul, Nat.zero_mul] at h
    rcases Nat.mul_eq_zero.1 h with e1 | e1 <;> omega
  -- the lengths
  have hlog : mag.log2 + k = m.log2 + e + j := by
    rw [← log2_mul_pow h0 k, h, log2_mul_pow (Nat.mul_ne_zero hm0 (by have := Nat.two_pow_pos e; omega)), log2_mul_pow hm0]
  have hm52 : m.log2 ≤ 52 := by
    have := (Nat.log2_lt (k := 53) hm0).2 (by rw [B_eq] at hm; omega)
    omega
  have hm52' : B ≤ m → m.log2 = 52 := fun hB => by
    have := (Nat.le_log2 (k := 52) hm0).2 (by rw [B_eq] at hB; exact hB)
    omega
  have hlast : max (place + mag.log2 - Ieee.double.fractionBits) Ieee.double.leastPlace = (e : Int) - 1074 := by
    rw [hl, hf]
    rcases hem with rfl | hB
    · omega
    · have := hm52' hB; omega
  simp only [hlast]
  have hkept : Ieee.Toward.even.cut neg (mag <<< (place - ((e : Int) - 1074)).toNat) ((e : Int) - 1074 - place).toNat = m := by
    rw [Nat.shiftLeft_eq]
    rcases Nat.lt_or_ge k (e + j) with hlt | hge
    · -- mag = m * 2 ^ (e + j - k)
      have e1 : (place - ((e : Int) - 1074)).toNat = 0 := by omega
      have e2 : ((e : Int) - 1074 - place).toNat = e + j - k := by omega
      have e3 : mag = m * 2 ^ (e + j - k) := by
        refine Nat.eq_of_mul_eq_mul_right hk ?_
        rw [h, Nat.mul_assoc, Nat.mul_assoc, ← Nat.pow_add, ← Nat.pow_add]
        congr 2
        omega
      rw [e1, e2, e3, Nat.pow_zero, Nat.mul_one]
      exact cut_exact neg hm0 _
    · have e1 : (place - ((e : Int) - 1074)).toNat = k - (e + j) := by omega
      have e2 : ((e : Int) - 1074 - place).toNat = 0 := by omega
      have e3 : mag * 2 ^ (k - (e + j)) = m := by
        refine Nat.eq_of_mul_eq_mul_right (Nat.two_pow_pos (e + j)) ?_
        rw [Nat.mul_assoc, ← Nat.pow_add, show k - (e + j) + (e + j) = k by omega, h, Nat.mul_assoc, ← Nat.pow_add]
      rw [e1, e2, e3]
      have := cut_exact neg hm0 0
      simpa using this
  rw [hkept, hl, hb, hi]
  congr 1
  have : ((e : Int) - 1074 - -1074).toNat = e := by omega
  rw [this, Nat.min_eq_left (Nat.le_of_lt hr)]

end Go.Lan
