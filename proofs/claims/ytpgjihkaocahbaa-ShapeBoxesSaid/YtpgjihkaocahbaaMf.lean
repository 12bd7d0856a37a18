/- A whole number times a power of two, as a float. -/
import Derived.Test.YtpgjihkaocahbaaMe
namespace Go.Lan

attribute [local irreducible] B

theorem wd_false (r : Nat) : wd false r = r := rfl
theorem F_nat (r : Nat) : F (r : Int) = r := by
  unfold F
  rw [if_neg (by omega), Int.toNat_natCast]; rfl
theorem pl_nat {r : Nat} (h : r ≤ I) : pl (r : Int) := ⟨by omega, by omega⟩

theorem mul_exact {n1 n2 : Bool} {r1 r2 r : Nat} (h1 : r1 < I) (h2 : r2 < I) (h : r < I) {c : Nat} (hc : c = 1074) (hv : V r1 * V r2 = V r * 2 ^ c) : M0.mul (wd n1 r1) (wd n2 r2) = wd (n1 ^^ n2) r := by
  obtain ⟨m1, e1, q1, v1, _⟩ := read_fin (neg := n1) h1
  obtain ⟨m2, e2, q2, v2, _⟩ := read_fin (neg := n2) h2
  have key : D.mul (wd n1 r1) (wd n2 r2) = some (wd (n1 ^^ n2) r) := by
    unfold Ieee.Format.mul
    rw [q1, q2]
    simp only [Ieee.Datum.product, Option.map_some, Option.some.injEq]
    refine write_exact h (k := e1 + e2) (j := c) (by omega) ?_
    rw [← hv, v1, v2, Nat.pow_add, Nat.mul_assoc, Nat.mul_assoc, Nat.mul_left_comm m2]
  show (D.mul _ _).getD nanW = _
  rw [key]; rfl

theorem abs_wd {neg : Bool} {r : Nat} (h : r < 9223372036854775808) : math_Abs M0 (wd neg r) = r := by
  have hm := hm64
  have hw : wd neg r < m64 := by unfold wd; split <;> omega
  unfold math_Abs
  have := u_andNot hw (show 9223372036854775808 < m64 by omega)
  rw [show m64 - 1 - 9223372036854775808 = 2 ^ 63 - 1 by decide, and_low] at this
  show f64from (M0.andNot .u64 ((wd neg r : Nat) : Int) 9223372036854775808) = _
  have e : M0.andNot .u64 ((wd neg r : Nat) : Int) 9223372036854775808 = ((wd neg r % 2 ^ 63 : Nat) : Int) := this
  rw [e]
  show (((wd neg r % 2 ^ 63 : Nat) : Int)).toNat = r
  rw [Int.toNat_natCast]
  unfold wd
  split <;> omega

theorem bitsok_wd {neg : Bool} {r : Nat} (h : r ≤ I) : f64bits.ok (wd neg r) = true := neW_wd h
theorem absok_wd {neg : Bool} {r : Nat} (h : r ≤ I) : math_Abs.ok M0 (wd neg r) = true := by
  unfold math_Abs.ok
  rw [bitsok_wd h]; rfl
theorem isInfok_wd {neg : Bool} {r : Nat} (h : r ≤ I) : math_IsInf.ok M0 (wd neg r) 0 = true := by
  unfold math_IsInf.ok
  rw [absok_wd h]; rfl

theorem isInf_wd {neg : Bool} {r : Nat} (h : r ≤ I) : math_IsInf M0 (wd neg r) 0 = decide (r = I) := by
  have hI := I_eq
  unfold math_IsInf
  rw [abs_wd (by omega)]
  show M0.gt r 9218868437227405311 = _
  have e : M0.gt (F (r : Int)) (F ((9218868437227405311 : Nat) : Int)) = _ := gt_F (pl_nat h) (pl_nat (by omega))
  rw [F_nat, F_nat] at e
  rw [e, Bool.eq_iff_iff, decide_eq_true_eq, decide_eq_true_eq]
  omega

theorem isNaN_wd {neg : Bool} {r : Nat} (h : r ≤ I) : math_IsNaN M0 (wd neg r) = false := by
  unfold math_IsNaN
  show (D.order (wd neg r) (wd neg r) != some .eq) = false
  rw [order_wd h h, show compare (K neg r) (K neg r) = .eq from compare_int_eq.2 rfl]
  rfl

theorem number_wd {neg : Bool} {r : Nat} (h : r < I) : round_Number M0 (wd neg r) = true := by
  unfold round_Number
  rw [isNaN_wd (Nat.le_of_lt h), isInf_wd (Nat.le_of_lt h), decide_eq_false (by omega)]
  rfl
theorem numberok_wd {neg : Bool} {r : Nat} (h : r ≤ I) : round_Number.ok M0 (wd neg r) = true := by
  unfold round_Number.ok
  rw [isNaN_wd h, isInfok_wd h]; rfl

theorem number_inf (neg : Bool) : round_Number M0 (wd neg I) = false := by
  unfold round_Number
  rw [isNaN_wd (Nat.le_refl _), isInf_wd (Nat.le_refl _), decide_eq_true rfl]
  rfl

theorem I_val : I = 2046 * B + B := by rw [I_eq, B_val]
theorem V_I {x : Nat} (hx : x = 2046) : V I = B * 2 ^ x := by
  subst hx
  rw [I_val, V_mk (by have := B_pos; omega) (.inr (Nat.le_refl _))]

theorem ofInt_nat {m r c : Nat} (hr : r < I) (hc : c = 1074) (h : V r = m * 2 ^ c) : M0.ofInt (m : Int) = r := by
  show D.write (.number (decide ((m : Int) < 0)) ((m : Int)).natAbs 0) = _
  rw [decide_eq_false (by omega), Int.natAbs_natCast]
  exact write_exact hr (k := c) (j := 0) (by omega) (by rw [h, Nat.pow_zero, Nat.mul_one])

theorem i_and2047 {a : Nat} (h : a < m64) : M0.and .i64 (a : Int) 2047 = ((a % 2048 : Nat) : Int) := by
  have hm := hm64
  show IntKind.i64.wrap (((BitVec.ofInt 64 (a : Int) &&& BitVec.ofInt 64 ((2047 : Nat) : Int)).toNat : Nat) : Int) = _
  rw [BitVec.toNat_and, u_toInt h, u_toInt (by omega), show (2047 : Nat) = 2 ^ 11 - 1 by decide, and_low]
  exact i_in (by omega)

theorem mask_exp {a : Nat} (h : a < 9223372036854775808) : M0.andNot .u64 (a : Int) 9218868437227405312 = ((a % 4503599627370496 : Nat) : Int) := by
  have hm := hm64
  have := u_andNot (a := a) (b := 9218868437227405312) (by omega) (by omega)
  rw [show m64 - 1 - 9218868437227405312 = 1 * 2 ^ 63 ||| (2 ^ 52 - 1) by decide, Nat.and_or_distrib_left, and_low] at this
  have e : a &&& 1 * 2 ^ 63 = 0 := by
    rw [Nat.one_mul]
    refine Nat.eq_of_testBit_eq fun i => ?_
    rw [Nat.testBit_and, Nat.testBit_two_pow, Nat.zero_testBit]
    by_cases hi : 63 = i
    · subst hi
      rw [Nat.testBit_lt_two_pow (by simpa using h)]
      rfl
    · rw [decide_eq_false hi, Bool.and_false]
  rw [e, Nat.zero_or] at this
  exact this

theorem set_exp {f x : Nat} (hf : f < 4503599627370496) (hx : x < 2048) : f64from (M0.or .u64 ((f : Nat) : Int) (shlV .u64 (IntKind.u64.wrap (x : Int)) 52)) = x * B + f := by
  have hm := hm64
  have hB : B = 2 ^ 52 := B_eq
  rw [u_wrap_lt (by omega)]
  have e : shlV .u64 (x : Int) 52 = ((x * 2 ^ 52 % m64 : Nat) : Int) := u_shl x 52
  have hlt : x * 2 ^ 52 < m64 := by omega
  rw [e, Nat.mod_eq_of_lt hlt, u_or (by omega) hlt, Nat.or_comm, or_add (k := 52) (by omega)]
  show (((x * 2 ^ 52 + f : Nat) : Int)).toNat = _
  rw [Int.toNat_natCast, hB]

theorem half53 {y : Nat} (hy : y = 969) : V 4368491638549381120 = B * 2 ^ y ∧ 4368491638549381120 < I := by
  subst hy
  refine ⟨?_, by rw [I_eq]; omega⟩
  rw [show 4368491638549381120 = 969 * B + B by rw [B_val]]
  exact V_mk (by have := B_pos; omega) (.inr (Nat.le_refl _))
theorem one_V {z : Nat} (hz : z = 1022) : V 4607182418800017408 = B * 2 ^ z ∧ 4607182418800017408 < I := by
  subst hz
  refine ⟨?_, by rw [I_eq]; omega⟩
  rw [show 4607182418800017408 = 1022 * B + B by rw [B_val]]
  exact V_mk (by have := B_pos; omega) (.inr (Nat.le_refl _))

theorem ldexp_nat {m E p : Nat} (h0 : m ≠ 0) (hm : m ≤ 2 * B) (hE : E ≤ 100000) (hp : V p = m * 2 ^ E) :
    math_Ldexp M0 (M0.ofInt (m : Int)) ((E : Int) - 1074) = (min p I : Nat) ∧ math_Ldexp.ok M0 (M0.ofInt (m : Int)) ((E : Int) - 1074) = true := by
  have hB : B = 4503599627370496 := B_val
  have hB2 : B = 2 ^ 52 := B_eq
  obtain ⟨c, hc⟩ : ∃ c : Nat, c = 1074 := ⟨_, rfl⟩
  obtain ⟨x, hx0⟩ : ∃ x : Nat, x = 2046 := ⟨_, rfl⟩
  obtain ⟨y, hy0⟩ : ∃ y : Nat, y = 969 := ⟨_, rfl⟩
  obtain ⟨z, hz0⟩ : ∃ z : Nat, z = 1022 := ⟨_, rfl⟩
  have hI := I_eq
  have hm6 := hm64
  obtain ⟨r, hr⟩ := rung_of hm c
  -- its rung
  have hrI : r < I := by
    rw [← V_lt_iff, hr, V_I hx0]
    calc m * 2 ^ c ≤ 2 * B * 2 ^ c := Nat.mul_le_mul_right _ hm
      _ = B * 2 ^ (c + 1) := by rw [Nat.mul_comm 2 B, Nat.mul_assoc, ← Nat.pow_succ']
      _ < B * 2 ^ x := Nat.mul_lt_mul_of_pos_left (Nat.pow_lt_pow_right (by omega) (by omega)) B_pos
  have hof := ofInt_nat hrI hc hr
  obtain ⟨e, t, hre, ht, het⟩ := rung_mk r
  have hvr : V r = t * 2 ^ e := by rw [hre]; exact V_mk ht het
  have hbig : 2 ^ c ≤ t * 2 ^ e := by
    rw [← hvr, hr]
    exact Nat.le_mul_of_pos_left _ (by omega)
  have he : 1022 ≤ e := by
    rcases Nat.lt_or_ge e 1022 with h1 | h1
    · exfalso
      have h2 : t * 2 ^ e < 2 ^ c := by
        calc t * 2 ^ e < 2 ^ 53 * 2 ^ e := Nat.mul_lt_mul_of_pos_right (by omega) (Nat.two_pow_pos e)
          _ = 2 ^ (53 + e) := (Nat.pow_add 2 53 e).symm
          _ ≤ 2 ^ c := Nat.pow_le_pow_right (by omega) (by omega)
      omega
    · exact h1
  have htB : B ≤ t := by
    rcases het with h1 | h1
    · omega
    · exact h1
  have he2 : e < 2046 := by
    rcases Nat.lt_or_ge e 2046 with h1 | h1
    · exact h1
    · exfalso
      have : 2046 * B ≤ e * B := Nat.mul_le_mul_right _ h1
      rw [hI] at hrI
      omega
  have hvp : V p * 2 ^ c = t * 2 ^ (e + E) := by
    rw [hp, Nat.mul_right_comm, ← hr, hvr, Nat.mul_assoc, ← Nat.pow_add]
  have hr0 : r ≠ 0 := by rw [hre]; omega
  -- the cases
  unfold math_Ldexp math_Ldexp.ok math_ldexp math_ldexp.ok
  rw [hof]
  have c1 : M0.eq r 0 = false := by
    have : M0.eq (F (r : Int)) (F 0) = decide ((r : Int) = 0) := eq_F (pl_nat (Nat.le_of_lt hrI)) (pl_nat (r := 0) (by omega))
    rw [F_nat, F_zero] at this
    rw [this, decide_eq_false (by omega)]
  have c2 : math_IsInf M0 r 0 = false := by
    have := isInf_wd (neg := false) (Nat.le_of_lt hrI)
    rw [wd_false] at this
    rw [this, decide_eq_false (by omega)]
  have c3 : math_IsNaN M0 r = false := isNaN_wd (neg := false) (Nat.le_of_lt hrI)
  have c4 : M0.lt (math_Abs M0 r) 4503599627370496 = false := by
    have h1 := abs_wd (neg := false) (r := r) (by omega)
    rw [wd_false] at h1
    have : M0.lt (F (r : Int)) (F ((4503599627370496 : Nat) : Int)) = _ := lt_F (pl_nat (Nat.le_of_lt hrI)) (pl_nat (by omega))
    rw [F_nat, F_nat] at this
    have hge : 1 * B ≤ e * B := Nat.mul_le_mul_right _ (by omega)
    rw [h1, this, decide_eq_false (by omega)]
  have c5 : math_normalize M0 r = (r, 0) := by unfold math_normalize; rw [c4]; rfl
  have c6 : math_normalize.ok M0 r = true := by unfold math_normalize.ok; have := absok_wd (neg := false) (Nat.le_of_lt hrI); rw [wd_false] at this; rw [this]; rfl
  have c8 : math_IsInf.ok M0 r 0 = true := isInfok_wd (neg := false) (Nat.le_of_lt hrI)
  have c9 : f64bits.ok r = true := bitsok_wd (neg := false) (Nat.le_of_lt hrI)
  rw [c1, c2, c3, c5, c6, c8]
  dsimp only
  rw [c9]
  simp only [cond_false, cond_true]
  have hexp : IntKind.i64.wrap ((IntKind.i64.wrap ((E : Int) - 1074 + 0)) + (IntKind.i64.wrap ((M0.and .i64 (IntKind.i64.wrap (shrV .u64 (f64bits r) 52)) 2047) - 1023))) = (E : Int) + e - 2096 := by
    have h1 : shrV .u64 (f64bits r) 52 = ((r / 2 ^ 52 : Nat) : Int) := u_shr (by omega) 52
    have h2 : r / 2 ^ 52 = e + 1 := by
      rw [← hB2, hre, show e * B + t = (t - B) + B * (e + 1) by rw [Nat.mul_add, Nat.mul_comm B e]; omega, Nat.add_mul_div_left _ _ B_pos, Nat.div_eq_of_lt (by omega), Nat.zero_add]
    rw [h1, h2, i_in (n := ((e + 1 : Nat) : Int)) (by omega), i_and2047 (by omega), Nat.mod_eq_of_lt (by omega), i_in (n := (E : Int) - 1074 + 0) (by omega), i_in (n := ((e + 1 : Nat) : Int) - 1023) (by omega), i_in (by omega)]
    omega
  rw [hexp]
  have hfrac : M0.andNot .u64 (f64bits r) 9218868437227405312 = ((t - B : Nat) : Int) := by
    have h1 := mask_exp (a := r) (by omega)
    have h2 : r % 4503599627370496 = t - B := by
      rw [← hB, hre, show e * B + t = (t - B) + B * (e + 1) by rw [Nat.mul_add, Nat.mul_comm B e]; omega, Nat.add_mul_mod_self_left, Nat.mod_eq_of_lt (by omega)]
    rw [h2] at h1
    exact h1
  rw [hfrac]
  have d1 : decide ((E : Int) + e - 2096 < -1075) = false := decide_eq_false (by omega)
  rw [d1, cond_false, cond_false]
  by_cases k1 : 3120 ≤ E + e
  · have d2 : decide ((E : Int) + e - 2096 > 1023) = true := decide_eq_true (by omega)
    rw [d2, cond_true]
    have c7 : M0.lt r 0 = false := by
      have : M0.lt (F (r : Int)) (F 0) = decide ((r : Int) < 0) := lt_F (pl_nat (Nat.le_of_lt hrI)) (pl_nat (r := 0) (by omega))
      rw [F_nat, F_zero] at this
      rw [this, decide_eq_false (by omega)]
    rw [c7]
    have hinf : math_Inf M0 1 = I := by rw [I_eq]; rfl
    have hpI : I ≤ p := by
      rw [← V_le_iff, V_I hx0]
      refine Nat.le_of_mul_le_mul_right (c := 2 ^ c) ?_ (Nat.two_pow_pos _)
      rw [hvp, Nat.mul_assoc, ← Nat.pow_add]
      exact Nat.mul_le_mul htB (Nat.pow_le_pow_right (by omega) (by omega))
    rw [Nat.min_eq_right hpI]
    exact ⟨hinf, rfl⟩
  · have d2 : decide ((E : Int) + e - 2096 > 1023) = false := decide_eq_false (by omega)
    rw [d2, cond_false]
    by_cases k2 : E + e < 1074
    · have d3 : decide ((E : Int) + e - 2096 < -1022) = true := decide_eq_true (by omega)
      rw [d3, cond_true]
      have hx : IntKind.i64.wrap ((IntKind.i64.wrap ((E : Int) + e - 2096 + 53)) + 1023) = ((E + e - 1020 : Nat) : Int) := by
        rw [i_in (n := (E : Int) + e - 2096 + 53) (by omega), i_in (by omega)]
        omega
      rw [hx, set_exp (by omega) (by omega)]
      have hy : (E + e - 1020) * B + (t - B) = (E + e - 1021) * B + t := by
        rw [show E + e - 1020 = (E + e - 1021) + 1 by omega, Nat.add_mul]; omega
      rw [hy]
      have hVy : V ((E + e - 1021) * B + t) = t * 2 ^ (E + e - 1021) := V_mk ht (.inr htB)
      have hyI : (E + e - 1021) * B + t < I := by
        have : (E + e - 1021) * B ≤ 53 * B := Nat.mul_le_mul_right _ (by omega)
        omega
      have hpI : p < I := by
        rw [← V_lt_iff, V_I hx0]
        refine Nat.lt_of_mul_lt_mul_right (a := 2 ^ c) ?_
        rw [hvp, Nat.mul_assoc, ← Nat.pow_add]
        calc t * 2 ^ (e + E) < 2 * B * 2 ^ (e + E) := Nat.mul_lt_mul_of_pos_right ht (Nat.two_pow_pos _)
          _ = B * 2 ^ (e + E + 1) := by rw [Nat.mul_comm 2 B, Nat.mul_assoc, ← Nat.pow_succ']
          _ ≤ B * 2 ^ (x + c) := Nat.mul_le_mul_left _ (Nat.pow_le_pow_right (by omega) (by omega))
      have := mul_exact (n1 := false) (n2 := false) (half53 hy0).2 hyI hpI hc (by
        rw [(half53 hy0).1, hVy, hvp, Nat.mul_mul_mul_comm, Nat.mul_comm B t, ← Nat.pow_add, Nat.mul_assoc, show e + E = 52 + (y + (E + e - 1021)) by omega, Nat.pow_add 2 52, ← hB2])
      have e1 : M0.mul 4368491638549381120 ((E + e - 1021) * B + t) = p := this
      rw [e1, Nat.min_eq_left (Nat.le_of_lt hpI)]
      exact ⟨rfl, rfl⟩
    · have d3 : decide ((E : Int) + e - 2096 < -1022) = false := decide_eq_false (by omega)
      rw [d3, cond_false]
      have hx : IntKind.i64.wrap ((E : Int) + e - 2096 + 1023) = ((E + e - 1073 : Nat) : Int) := by
        rw [i_in (by omega)]
        omega
      rw [hx, set_exp (by omega) (by omega)]
      have hy : (E + e - 1073) * B + (t - B) = (E + e - 1074) * B + t := by
        rw [show E + e - 1073 = (E + e - 1074) + 1 by omega, Nat.add_mul]; omega
      rw [hy]
      have hVy : V ((E + e - 1074) * B + t) = t * 2 ^ (E + e - 1074) := V_mk ht (.inr htB)
      have hyI : (E + e - 1074) * B + t < I := by
        have : (E + e - 1074) * B ≤ 2045 * B := Nat.mul_le_mul_right _ (by omega)
        omega
      have hpy : p = (E + e - 1074) * B + t := by
        refine V_inj (Nat.eq_of_mul_eq_mul_right (Nat.two_pow_pos c) ?_)
        rw [hvp, hVy, Nat.mul_assoc, ← Nat.pow_add, show E + e - 1074 + c = e + E by omega]
      have := mul_exact (n1 := false) (n2 := false) (one_V hz0).2 hyI hyI hc (by
        have e3 : B * 2 ^ z = 2 ^ c := by rw [hB2, ← Nat.pow_add, show 52 + z = c by omega]
        rw [(one_V hz0).1, e3, Nat.mul_comm])
      have e1 : M0.mul 4607182418800017408 ((E + e - 1074) * B + t) = (E + e - 1074) * B + t := this
      rw [e1, hpy, Nat.min_eq_left (Nat.le_of_lt hyI)]
      exact ⟨rfl, rfl⟩

theorem ldexp_zero (e : Int) : math_Ldexp M0 (M0.ofInt 0) e = 0 ∧ math_Ldexp.ok M0 (M0.ofInt 0) e = true := by
  obtain ⟨c, hc⟩ : ∃ c : Nat, c = 1074 := ⟨_, rfl⟩
  have h : M0.ofInt 0 = 0 := ofInt_nat (m := 0) (r := 0) (by rw [I_eq]; omega) hc (by rw [V_zero, Nat.zero_mul])
  have c1 : M0.eq 0 0 = true := by
    have := eq_F (s := 0) (t := 0) (pl_nat (r := 0) (by omega)) (pl_nat (r := 0) (by omega))
    rw [F_zero] at this
    rw [this]; rfl
  unfold math_Ldexp math_Ldexp.ok math_ldexp math_ldexp.ok
  rw [h, c1]
  exact ⟨rfl, rfl⟩

end Go.Lan
