/- Div64: the quotient and the rest. -/
import Derived.Test.YtpgjihkaocahbaaMq
namespace Go.Lan

theorem lead64 {y : Nat} (h : y < m64) : bits_LeadingZeros64 M0 (y : Int) = ((64 - blen y : Nat) : Int) ∧ bits_LeadingZeros64.ok M0 (y : Int) = true := by
  obtain ⟨h1, h2⟩ := len64 h
  have hb : blen y ≤ 64 := blen_le.2 (by rw [← m64_eq]; exact h)
  unfold bits_LeadingZeros64 bits_LeadingZeros64.ok
  rw [h1, h2]
  exact ⟨by rw [i_in (by omega)]; omega, rfl⟩

theorem tdiv_nat (a b : Nat) : Int.tdiv (a : Int) (b : Int) = ((a / b : Nat) : Int) := (Int.ofNat_tdiv a b).symm
theorem tmod_nat (a b : Nat) : Int.tmod (a : Int) (b : Int) = ((a % b : Nat) : Int) := (Int.ofNat_tmod a b).symm

theorem wrap_mul {a b : Nat} (h : a * b < m64) : IntKind.u64.wrap ((a : Int) * (b : Int)) = ((a * b : Nat) : Int) := by
  rw [← Int.natCast_mul, u_wrap_lt h]
theorem wrap_sub {a b : Nat} (h : b ≤ a) (ha : a < m64) : IntKind.u64.wrap ((a : Int) - (b : Int)) = ((a - b : Nat) : Int) := by
  rw [show (a : Int) - (b : Int) = ((a - b : Nat) : Int) by omega, u_wrap_lt (by omega)]

/-- (x + y - z) in 64 bits, where the true difference is one of 64 bits. -/
theorem wrap_digit {x u z r : Nat} (h : x + u = z + r) (hr : r < m64) :
    IntKind.u64.wrap ((IntKind.u64.wrap ((IntKind.u64.wrap ((x : Int))) + ((u : Nat) : Int))) - (IntKind.u64.wrap (z : Int))) = (r : Int) := by
  have hm := hm64
  rw [u_wrap, u_wrap, show (((x % m64 : Nat) : Int) + ((u : Nat) : Int)) = ((x % m64 + u : Nat) : Int) by omega, u_wrap]
  have e : ((x % m64 + u) % m64 : Nat) = (x + u) % m64 := by rw [Nat.add_mod, Nat.mod_mod, ← Nat.add_mod]
  rw [e, h, IntKind.wrap_u64, hm]
  omega

theorem div64_big {hi lo y : Nat} (h0 : 0 < hi) (hhi : hi < y) (hlo : lo < m64) (hy : y < m64) :
    bits_Div64 M0 (hi : Int) (lo : Int) (y : Int) = ((((hi * m64 + lo) / y : Nat) : Int), (((hi * m64 + lo) % y : Nat) : Int)) ∧ bits_Div64.ok M0 (hi : Int) (lo : Int) (y : Int) = true := by
  have hm := hm64
  have hme := m64_eq
  have hw := w32_eq
  have hwe : w32 = 2 ^ 32 := by decide
  have hww : w32 * w32 = m64 := by decide
  obtain ⟨z1, z2⟩ := lead64 hy
  have hb64 : blen y ≤ 64 := blen_le.2 (by rw [← m64_eq]; exact hy)
  have hbp : 0 < blen y := lt_blen.2 (by rw [Nat.pow_zero]; omega)
  obtain ⟨s, hs⟩ : ∃ s, s = 64 - blen y := ⟨_, rfl⟩
  have hps := Nat.two_pow_pos s
  have hylt : y < 2 ^ (64 - s) := by
    have : y < 2 ^ blen y := blen_le.1 (Nat.le_refl _)
    rw [show 64 - s = blen y by omega]; exact this
  have hyge : 2 ^ (63 - s) ≤ y := lt_blen.1 (by omega)
  have hpow : 2 ^ (64 - s) * 2 ^ s = m64 := by rw [hme, ← Nat.pow_add]; congr 1; omega
  have hpow' : 2 ^ (63 - s) * 2 ^ s = 2 ^ 63 := by rw [← Nat.pow_add]; congr 1; omega
  obtain ⟨Y, hY⟩ : ∃ Y, Y = y * 2 ^ s := ⟨_, rfl⟩
  have hYlt : Y < m64 := by rw [hY, ← hpow]; exact Nat.mul_lt_mul_of_pos_right hylt hps
  have hYge : 2 ^ 63 ≤ Y := by rw [hY, ← hpow']; exact Nat.mul_le_mul_right _ hyge
  have hhis : hi * 2 ^ s < m64 := by
    refine Nat.lt_trans (Nat.mul_lt_mul_of_pos_right hhi hps) ?_
    rw [← hY]; exact hYlt
  have hlod : lo / 2 ^ (64 - s) < 2 ^ s := Nat.div_lt_of_lt_mul (by rw [hpow]; exact hlo)
  -- the words
  have e0 : IntKind.u64.wrap (bits_LeadingZeros64 M0 (y : Int)) = (s : Int) := by rw [z1, ← hs, u_wrap_lt (by omega)]
  have e8 : shlV .u64 (y : Int) (s : Int) = (Y : Int) := by rw [u_shl, ← hY, Nat.mod_eq_of_lt hYlt]
  have e9 : shrV .u64 (Y : Int) 32 = ((Y / w32 : Nat) : Int) := by
    have := u_shr hYlt 32
    rw [← hwe] at this; exact this
  have e10 : M0.and .u64 (Y : Int) 4294967295 = ((Y % w32 : Nat) : Int) := by
    have := u_and hYlt (show 4294967295 < m64 by omega)
    rw [show (4294967295 : Nat) = 2 ^ 32 - 1 by decide, and_low, ← hwe] at this
    exact this
  have e12 : IntKind.u64.wrap (64 - (s : Int)) = ((64 - s : Nat) : Int) := by
    rw [show (64 : Int) - (s : Int) = ((64 - s : Nat) : Int) by omega, u_wrap_lt (by omega)]
  obtain ⟨U, hU⟩ : ∃ U, U = hi * 2 ^ s + lo / 2 ^ (64 - s) := ⟨_, rfl⟩
  have e14 : M0.or .u64 (shlV .u64 (hi : Int) (s : Int)) (shrV .u64 (lo : Int) ((64 - s : Nat) : Int)) = (U : Int) := by
    rw [u_shl, u_shr hlo, Nat.mod_eq_of_lt hhis, u_or hhis (Nat.lt_of_le_of_lt (Nat.div_le_self _ _) hlo), or_add hlod, ← hU]
  obtain ⟨L, hL⟩ : ∃ L, L = lo * 2 ^ s % m64 := ⟨_, rfl⟩
  have hLlt : L < m64 := by rw [hL]; exact Nat.mod_lt _ (by omega)
  have e15 : shlV .u64 (lo : Int) (s : Int) = (L : Int) := by rw [u_shl, ← hL]
  have e16 : shrV .u64 (L : Int) 32 = ((L / w32 : Nat) : Int) := by
    have := u_shr hLlt 32
    rw [← hwe] at this; exact this
  have e17 : M0.and .u64 (L : Int) 4294967295 = ((L % w32 : Nat) : Int) := by
    have := u_and hLlt (show 4294967295 < m64 by omega)
    rw [show (4294967295 : Nat) = 2 ^ 32 - 1 by decide, and_low, ← hwe] at this
    exact this
  -- the whole
  have hNs : (hi * m64 + lo) * 2 ^ s = U * m64 + L := by
    have h1 : lo * 2 ^ s = lo / 2 ^ (64 - s) * m64 + L := by
      have h2 := Nat.div_add_mod (lo * 2 ^ s) m64
      have h3 : lo * 2 ^ s / m64 = lo / 2 ^ (64 - s) := by rw [← hpow, Nat.mul_div_mul_right _ _ hps]
      rw [h3, ← hL, Nat.mul_comm m64] at h2
      exact h2.symm
    rw [Nat.add_mul, h1, hU, Nat.add_mul, Nat.mul_right_comm]
    omega
  have hUlt : U < Y := by
    have h1 : (hi * m64 + lo) < y * m64 := by
      have : (hi + 1) * m64 ≤ y * m64 := Nat.mul_le_mul_right _ hhi
      rw [Nat.add_mul] at this
      omega
    have h2 : (hi * m64 + lo) * 2 ^ s < y * m64 * 2 ^ s := Nat.mul_lt_mul_of_pos_right h1 hps
    rw [hNs, Nat.mul_right_comm, ← hY] at h2
    exact Nat.lt_of_mul_lt_mul_right (Nat.lt_of_le_of_lt (Nat.le_add_right _ _) h2)
  obtain ⟨b, hb⟩ : ∃ b, b = Y / w32 := ⟨_, rfl⟩
  obtain ⟨a, ha⟩ : ∃ a, a = Y % w32 := ⟨_, rfl⟩
  have hba : b * w32 + a = Y := by rw [hb, ha, Nat.mul_comm]; exact Nat.div_add_mod Y w32
  have ha' : a < w32 := by rw [ha]; exact Nat.mod_lt _ (by omega)
  have hb' : b < w32 := by rw [hb]; exact Nat.div_lt_of_lt_mul (by rw [hww]; exact hYlt)
  have hb2 : 2147483648 ≤ b := by rw [hb]; exact (Nat.le_div_iff_mul_le (by omega)).2 (by rw [hw]; omega)
  obtain ⟨u, hu⟩ : ∃ u, u = L / w32 := ⟨_, rfl⟩
  obtain ⟨v, hv⟩ : ∃ v, v = L % w32 := ⟨_, rfl⟩
  have huv : u * w32 + v = L := by rw [hu, hv, Nat.mul_comm]; exact Nat.div_add_mod L w32
  have hu' : u < w32 := by rw [hu]; exact Nat.div_lt_of_lt_mul (by rw [hww]; exact hLlt)
  have hv' : v < w32 := by rw [hv]; exact Nat.mod_lt _ (by omega)
  have hUm : U < m64 := by omega
  -- the first digit
  obtain ⟨r1, l1, l2⟩ := loop17 (Y := Y) (s := s) (b := b) (a := a) (U := U) (u := u) (v := v) hb2 hb' ha' hu' (by rw [hba]; exact hUlt)
  have d1 := Nat.div_add_mod U b
  have q18 : IntKind.u64.wrap (Int.tdiv (U : Int) (b : Int)) = ((U / b : Nat) : Int) := by
    rw [tdiv_nat, u_wrap_lt (Nat.lt_of_le_of_lt (Nat.div_le_self _ _) hUm)]
  have q20 : ∀ W : Nat, W < m64 → IntKind.u64.wrap ((W : Int) - (IntKind.u64.wrap ((((W / b : Nat)) : Int) * ((b : Nat) : Int)))) = ((W % b : Nat) : Int) := by
    intro W hW
    have d2 := Nat.div_add_mod W b
    rw [Nat.mul_comm] at d2
    rw [wrap_mul (by omega), wrap_sub (by omega) hW]
    congr 1
    omega
  obtain ⟨Q1, hQ1⟩ : ∃ Q, Q = (U * w32 + u) / (b * w32 + a) := ⟨_, rfl⟩
  obtain ⟨R1, hR1⟩ : ∃ R, R = (U * w32 + u) % (b * w32 + a) := ⟨_, rfl⟩
  have hd1 : U * w32 + u = Q1 * Y + R1 := by
    rw [hQ1, hR1, hba, Nat.mul_comm _ Y]
    exact (Nat.div_add_mod _ _).symm
  have hR1lt : R1 < Y := by rw [hR1, hba]; exact Nat.mod_lt _ (by omega)
  have hQ1lt : Q1 < w32 := by
    rw [hQ1, hba]
    refine (Nat.div_lt_iff_lt_mul (by omega)).2 ?_
    have : (U + 1) * w32 ≤ Y * w32 := Nat.mul_le_mul_right _ hUlt
    rw [Nat.add_mul, Nat.mul_comm Y] at this
    omega
  have x36 : IntKind.u64.wrap ((IntKind.u64.wrap ((IntKind.u64.wrap ((U : Int) * 4294967296)) + ((u : Nat) : Int))) - (IntKind.u64.wrap (((Q1 : Nat) : Int) * ((Y : Nat) : Int)))) = (R1 : Int) := by
    have h1 : (U : Int) * 4294967296 = ((U * w32 : Nat) : Int) := by rw [hw, Int.natCast_mul]; rfl
    rw [h1, ← Int.natCast_mul]
    exact wrap_digit hd1 (by omega)
  -- the second digit
  obtain ⟨r2, l3, l4⟩ := loop24 (Y := Y) (s := s) (b := b) (a := a) (q1 := Q1) (U := R1) (u := v) hb2 hb' ha' hv' (by rw [hba]; exact hR1lt)
  obtain ⟨Q0, hQ0⟩ : ∃ Q, Q = (R1 * w32 + v) / (b * w32 + a) := ⟨_, rfl⟩
  obtain ⟨R0, hR0⟩ : ∃ R, R = (R1 * w32 + v) % (b * w32 + a) := ⟨_, rfl⟩
  have hd0 : R1 * w32 + v = Q0 * Y + R0 := by
    rw [hQ0, hR0, hba, Nat.mul_comm _ Y]
    exact (Nat.div_add_mod _ _).symm
  have hR0lt : R0 < Y := by rw [hR0, hba]; exact Nat.mod_lt _ (by omega)
  have hQ0lt : Q0 < w32 := by
    rw [hQ0, hba]
    refine (Nat.div_lt_iff_lt_mul (by omega)).2 ?_
    have : (R1 + 1) * w32 ≤ Y * w32 := Nat.mul_le_mul_right _ hR1lt
    rw [Nat.add_mul, Nat.mul_comm Y] at this
    omega
  have q37 : IntKind.u64.wrap (Int.tdiv (R1 : Int) (b : Int)) = ((R1 / b : Nat) : Int) := by
    rw [tdiv_nat, u_wrap_lt (Nat.lt_of_le_of_lt (Nat.div_le_self _ _) (by omega))]
  have xq : IntKind.u64.wrap ((IntKind.u64.wrap (((Q1 : Nat) : Int) * 4294967296)) + ((Q0 : Nat) : Int)) = ((Q1 * w32 + Q0 : Nat) : Int) := by
    have h1 : (Q1 : Int) * 4294967296 = ((Q1 * w32 : Nat) : Int) := by rw [hw, Int.natCast_mul]; rfl
    have h2 : Q1 * w32 + Q0 < m64 := by
      have : (Q1 + 1) * w32 ≤ w32 * w32 := Nat.mul_le_mul_right _ hQ1lt
      rw [Nat.add_mul] at this
      omega
    rw [h1, u_wrap_lt (by omega), ← Int.natCast_add, u_wrap_lt h2]
  have xr : IntKind.u64.wrap ((IntKind.u64.wrap ((IntKind.u64.wrap (((R1 : Nat) : Int) * 4294967296)) + ((v : Nat) : Int))) - (IntKind.u64.wrap (((Q0 : Nat) : Int) * ((Y : Nat) : Int)))) = (R0 : Int) := by
    have h1 : (R1 : Int) * 4294967296 = ((R1 * w32 : Nat) : Int) := by rw [hw, Int.natCast_mul]; rfl
    rw [h1, ← Int.natCast_mul]
    exact wrap_digit hd0 (by omega)
  have xs : shrV .u64 (R0 : Int) (s : Int) = ((R0 / 2 ^ s : Nat) : Int) := u_shr (by omega) s
  -- all of it
  have hall : (hi * m64 + lo) * 2 ^ s = (Q1 * w32 + Q0) * Y + R0 := by
    rw [hNs, ← huv, ← hww, ← Nat.mul_assoc, ← Nat.add_assoc, ← Nat.add_mul, hd1, Nat.add_mul, Nat.add_assoc, hd0, Nat.add_mul (Q1 * w32), Nat.mul_right_comm]
    omega
  have hq : (hi * m64 + lo) / y = Q1 * w32 + Q0 := by
    have h1 : (hi * m64 + lo) * 2 ^ s / (y * 2 ^ s) = (hi * m64 + lo) / y := Nat.mul_div_mul_right _ _ hps
    rw [← h1, ← hY, hall, Nat.mul_comm _ Y, Nat.mul_add_div (by omega), Nat.div_eq_of_lt hR0lt, Nat.add_zero]
  have hr : (hi * m64 + lo) % y = R0 / 2 ^ s := by
    have h1 : (hi * m64 + lo) * 2 ^ s % (y * 2 ^ s) = (hi * m64 + lo) % y * 2 ^ s := Nat.mul_mod_mul_right _ _ _
    rw [← hY, hall, Nat.mul_comm _ Y, Nat.mul_add_mod, Nat.mod_eq_of_lt hR0lt] at h1
    rw [h1, Nat.mul_div_cancel _ hps]
  have c1 : (((y : Nat) : Int) == 0) = false := by rw [beq_eq_false_iff_ne]; omega
  have c2 : decide (((y : Nat) : Int) ≤ ((hi : Nat) : Int)) = false := decide_eq_false (by omega)
  have c3 : (((hi : Nat) : Int) == 0) = false := by rw [beq_eq_false_iff_ne]; omega
  have c4 : decide (0 ≤ ((s : Nat) : Int)) = true := decide_eq_true (by omega)
  have c5 : decide (0 ≤ ((64 - s : Nat) : Int)) = true := decide_eq_true (by omega)
  have c6 : (!decide (((b : Nat) : Int) = 0)) = true := by rw [decide_eq_false (by omega)]; rfl
  constructor
  · unfold bits_Div64
    rw [c3, cond_false]
    dsimp only
    rw [e0, e8, e9, e10, e12, e14, e15, e16, e17, ← hb, ← ha, ← hu, ← hv, q18, q20 U hUm, l1]
    dsimp only
    rw [← hQ1, x36, q37, q20 R1 (by omega), l3]
    dsimp only
    rw [← hQ0, xq, xr, xs, hq, hr]
  · unfold bits_Div64.ok
    rw [c1, c2, c3, z2]
    dsimp only
    rw [e0, e8, e9, e10, e12, e14, e15, e16, e17, ← hb, ← ha, ← hu, ← hv, q18, q20 U hUm, l1, l2, c4, c5, c6]
    dsimp only
    rw [← hQ1, x36, q37, q20 R1 (by omega), l3, l4]
    dsimp only
    rw [c4]
    rfl

theorem div64 {hi lo y : Nat} (hhi : hi < y) (hlo : lo < m64) (hy : y < m64) :
    bits_Div64 M0 (hi : Int) (lo : Int) (y : Int) = ((((hi * m64 + lo) / y : Nat) : Int), (((hi * m64 + lo) % y : Nat) : Int)) ∧ bits_Div64.ok M0 (hi : Int) (lo : Int) (y : Int) = true := by
  rcases Nat.eq_zero_or_pos hi with h0 | h0
  · subst h0
    rw [Nat.zero_mul, Nat.zero_add]
    have c1 : (((y : Nat) : Int) == 0) = false := by rw [beq_eq_false_iff_ne]; omega
    have c2 : decide (((y : Nat) : Int) ≤ ((0 : Nat) : Int)) = false := decide_eq_false (by omega)
    have c3 : (((0 : Nat) : Int) == 0) = true := rfl
    have c4 : (!decide (((y : Nat) : Int) = 0)) = true := by rw [decide_eq_false (by omega)]; rfl
    constructor
    · unfold bits_Div64
      rw [c3, cond_true, tdiv_nat, tmod_nat, u_wrap_lt (Nat.lt_of_le_of_lt (Nat.div_le_self _ _) hlo)]
    · unfold bits_Div64.ok
      rw [c1, c2, c3, c4]
      rfl
  · exact div64_big h0 hhi hlo hy

end Go.Lan
