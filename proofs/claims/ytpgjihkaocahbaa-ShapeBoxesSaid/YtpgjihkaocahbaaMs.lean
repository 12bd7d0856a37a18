/- round.Div. -/
import Derived.Test.YtpgjihkaocahbaaMr
namespace Go.Lan

attribute [local irreducible] B

/-- A quotient of two exact numbers, by words. -/
theorem div_words {N d : Nat} (hd : 0 < d) (hN : N < m64 * m64) :
    N / d = N / m64 / d * m64 + (N / m64 % d * m64 + N % m64) / d ∧ (N / m64 % d * m64 + N % m64) / d < m64 ∧ N % d = (N / m64 % d * m64 + N % m64) % d ∧ N / m64 / d < m64 := by
  have hm := hm64
  have h1 := Nat.div_add_mod N m64
  have h2 := Nat.div_add_mod (N / m64) d
  have h3 : N / m64 % d < d := Nat.mod_lt _ hd
  have h4 : N % m64 < m64 := Nat.mod_lt _ (by omega)
  have h5 : N = d * (N / m64 / d * m64) + (N / m64 % d * m64 + N % m64) := by
    rw [← Nat.mul_assoc]
    generalize N / m64 = H at *
    generalize N % m64 = L at *
    rw [← Nat.add_assoc, ← Nat.add_mul, h2, Nat.mul_comm H, h1]
  have h6 : (N / m64 % d * m64 + N % m64) / d < m64 := by
    refine (Nat.div_lt_iff_lt_mul hd).2 ?_
    have : (N / m64 % d + 1) * m64 ≤ d * m64 := Nat.mul_le_mul_right _ h3
    rw [Nat.add_mul, Nat.mul_comm d] at this
    omega
  refine ⟨?_, h6, ?_, ?_⟩
  · conv => lhs; rw [h5]
    rw [Nat.mul_add_div hd]
  · conv => lhs; rw [h5]
    rw [Nat.mul_add_mod]
  · refine Nat.lt_of_le_of_lt (Nat.div_le_self _ _) (Nat.div_lt_of_lt_mul hN)

theorem eq_zero_wd {n : Bool} {r : Nat} (h : r ≤ I) : M0.eq (wd n r) 0 = decide (r = 0) := by
  show (D.order (wd n r) (wd false 0) == some .eq) = _
  rw [order_wd h (Nat.zero_le _), Bool.eq_iff_iff]
  simp only [beq_iff_eq, Option.some.injEq, compare_int_eq, decide_eq_true_eq, K]
  cases n <;> simp [sg]

theorem div_spec {n1 n2 : Bool} {r1 r2 : Nat} (h1 : r1 < I) (h2 : r2 < I) (h0 : r2 ≠ 0) {c : Nat} (hc : c = 1074) :
    (∃ s, round_Div M0 (wd n1 r1) (wd n2 r2) true = (F s, 0) ∧ round_Div.ok M0 (wd n1 r1) (wd n2 r2) true = true ∧ isD s (fun z => z * (V r2 : Int) ≤ sg (!(n1 == n2)) (V r1 * 2 ^ c))) ∧
    (∃ s, round_Div M0 (wd n1 r1) (wd n2 r2) false = (F s, 0) ∧ round_Div.ok M0 (wd n1 r1) (wd n2 r2) false = true ∧ isU s (fun z => sg (!(n1 == n2)) (V r1 * 2 ^ c) ≤ z * (V r2 : Int))) := by
  have hB := B_eq
  have hBv := B_val
  have hm := hm64
  have hmm : m64 * m64 = 2 ^ 128 := by decide
  obtain ⟨m1, e1, s1, v1, _, l1, _, k1⟩ := split_wd (neg := n1) h1
  obtain ⟨m2, e2, s2, v2, hr2, l2, _, k2⟩ := split_wd (neg := n2) h2
  have hm2 : m2 ≠ 0 := by
    intro e
    rw [e, Nat.zero_mul] at v2
    exact h0 (V_eqz.1 v2)
  have htwo : round_two M0 (wd n1 r1) (wd n2 r2) = true := by unfold round_two; rw [number_wd h1, number_wd h2]; rfl
  have hb1 : blen m1 ≤ 53 := blen_le.2 (by omega)
  have hb2 : blen m2 ≤ 53 := blen_le.2 (by omega)
  obtain ⟨k, hk⟩ : ∃ k, k = 117 - blen m1 := ⟨_, rfl⟩
  obtain ⟨j, hj⟩ : ∃ j, j = 53 - blen m2 := ⟨_, rfl⟩
  obtain ⟨N, hN⟩ : ∃ N, N = m1 * 2 ^ k := ⟨_, rfl⟩
  obtain ⟨d, hd⟩ : ∃ d, d = m2 * 2 ^ j := ⟨_, rfl⟩
  have hNlen : m1 ≠ 0 → blen N = 117 := fun h => by rw [hN, blen_mul h]; omega
  have hNlt : N < 2 ^ 117 := by
    by_cases h : m1 = 0
    · rw [hN, h, Nat.zero_mul]; exact Nat.two_pow_pos _
    · exact blen_le.1 (Nat.le_of_eq (hNlen h))
  have hdlen : blen d = 53 := by rw [hd, blen_mul hm2]; omega
  have hdlt : d < 2 ^ 53 := blen_le.1 (Nat.le_of_eq hdlen)
  have hdge : 2 ^ 52 ≤ d := lt_blen.1 (by omega)
  obtain ⟨a1, a2⟩ := length_ex n1 (show m1 < m64 * m64 by omega) ((e1 : Int) - 1074) false
  obtain ⟨a3, a4⟩ := length_ex n2 (show m2 < m64 * m64 by omega) ((e2 : Int) - 1074) false
  have w1 : IntKind.i64.wrap (117 - ((blen m1 : Nat) : Int)) = (k : Int) := by rw [i_in (by omega)]; omega
  have w2 : IntKind.i64.wrap (53 - ((blen m2 : Nat) : Int)) = (j : Int) := by rw [i_in (by omega)]; omega
  obtain ⟨b1, b2⟩ := left_ex n1 (N := m1) (n := k) (by rw [← hN]; omega) (by omega) ((e1 : Int) - 1074) (by omega) false
  obtain ⟨b3, b4⟩ := left_ex n2 (N := m2) (n := j) (by rw [← hd]; omega) (by omega) ((e2 : Int) - 1074) (by omega) false
  rw [← hN] at b1
  rw [← hd] at b3
  obtain ⟨q1, q2, q3, q4⟩ := div_words (N := N) (d := d) (by omega) (by omega)
  have hNh : N / m64 < m64 := Nat.div_lt_of_lt_mul (by omega)
  have hNl : N % m64 < m64 := Nat.mod_lt _ (by omega)
  have hdx : ex n2 d ((e2 : Int) - 1074 - j) false = ⟨n2, 0, (d : Nat), (e2 : Int) - 1074 - j, false⟩ := ex_small _ (by omega) _ _
  have hr1 : N / m64 % d < d := Nat.mod_lt _ (by omega)
  obtain ⟨f1, f2⟩ := div64 (hi := 0) (lo := N / m64) (y := d) (by omega) hNh (by omega)
  rw [Nat.zero_mul, Nat.zero_add] at f1
  obtain ⟨f3, f4⟩ := div64 (hi := N / m64 % d) (lo := N % m64) (y := d) hr1 hNl (by omega)
  obtain ⟨Q, hQ⟩ : ∃ Q, Q = N / d := ⟨_, rfl⟩
  obtain ⟨ρ, hρ⟩ : ∃ ρ, ρ = N % d := ⟨_, rfl⟩
  have hQd : N = Q * d + ρ := by rw [hQ, hρ, Nat.mul_comm]; exact (Nat.div_add_mod N d).symm
  have hρd : ρ < d := by rw [hρ]; exact Nat.mod_lt _ (by omega)
  obtain ⟨e, he⟩ : ∃ e : Int, e = (e1 : Int) - 1074 - k - ((e2 : Int) - 1074 - j) := ⟨_, rfl⟩
  have hwe : IntKind.i64.wrap (((e1 : Int) - 1074 - k) - ((e2 : Int) - 1074 - j)) = e := by rw [i_in (by omega), he]
  have hQlt : Q < m64 * m64 := by
    have : Q ≤ N := by rw [hQ]; exact Nat.div_le_self _ _
    omega
  have hex : (⟨!(n1 == n2), ((N / m64 / d : Nat) : Int), (((N / m64 % d * m64 + N % m64) / d : Nat) : Int), e, ((((N / m64 % d * m64 + N % m64) % d : Nat) : Int) != 0)⟩ : LExact) = ex (!(n1 == n2)) Q e (decide (ρ ≠ 0)) := by
    have g1 : Q / m64 = N / m64 / d := by
      rw [hQ, q1, Nat.mul_comm, Nat.mul_add_div (by omega), Nat.div_eq_of_lt q2, Nat.add_zero]
    have g2 : Q % m64 = (N / m64 % d * m64 + N % m64) / d := by
      rw [hQ, q1, Nat.mul_comm, Nat.mul_add_mod, Nat.mod_eq_of_lt q2]
    have g3 : ((((N / m64 % d * m64 + N % m64) % d : Nat) : Int) != 0) = decide (ρ ≠ 0) := by
      rw [← q3, ← hρ, Bool.eq_iff_iff, bne_iff_ne, decide_eq_true_eq]
      omega
    unfold ex
    rw [g1, g2, g3]
  -- sizes
  have hpk := Nat.two_pow_pos (k + j)
  have scale : ∀ z : Nat, (z * V r2 ≤ V r1 * 2 ^ c ↔ z * d * 2 ^ (e2 + k) ≤ N * 2 ^ (e1 + j + c)) ∧ (V r1 * 2 ^ c ≤ z * V r2 ↔ N * 2 ^ (e1 + j + c) ≤ z * d * 2 ^ (e2 + k)) := by
    intro z
    have x1 : z * V r2 * 2 ^ (k + j) = z * d * 2 ^ (e2 + k) := by
      rw [v2, hd, Nat.pow_add, Nat.pow_add]
      simp only [Nat.mul_assoc, Nat.mul_comm, Nat.mul_left_comm]
    have x2 : V r1 * 2 ^ c * 2 ^ (k + j) = N * 2 ^ (e1 + j + c) := by
      rw [v1, hN, Nat.pow_add, Nat.pow_add, Nat.pow_add]
      simp only [Nat.mul_assoc, Nat.mul_comm, Nat.mul_left_comm]
    rw [← x1, ← x2]
    exact ⟨⟨fun h => Nat.mul_le_mul_right _ h, fun h => Nat.le_of_mul_le_mul_right h hpk⟩, ⟨fun h => Nat.mul_le_mul_right _ h, fun h => Nat.le_of_mul_le_mul_right h hpk⟩⟩
  have sides : ∀ z : Nat, ((if (!(n1 == n2)) then sg (!(n1 == n2)) (V r1 * 2 ^ c) ≤ -(z : Int) * (V r2 : Int) else (z : Int) * (V r2 : Int) ≤ sg (!(n1 == n2)) (V r1 * 2 ^ c)) ↔ z * V r2 ≤ V r1 * 2 ^ c) ∧
      ((if (!(n1 == n2)) then -(z : Int) * (V r2 : Int) ≤ sg (!(n1 == n2)) (V r1 * 2 ^ c) else sg (!(n1 == n2)) (V r1 * 2 ^ c) ≤ (z : Int) * (V r2 : Int)) ↔ V r1 * 2 ^ c ≤ z * V r2) := by
    intro z
    have hz : ∀ x : Nat, ((z : Int) * (V r2 : Int) ≤ (x : Int) ↔ z * V r2 ≤ x) ∧ ((x : Int) ≤ (z : Int) * (V r2 : Int) ↔ x ≤ z * V r2) := fun x => by
      rw [← Int.natCast_mul, Int.ofNat_le, Int.ofNat_le]
      exact ⟨Iff.rfl, Iff.rfl⟩
    cases (!(n1 == n2))
    · rw [sgf]
      simp only [Bool.false_eq_true, if_false]
      exact hz _
    · rw [sgt]
      simp only [if_true]
      rw [Int.neg_mul, Int.neg_le_neg_iff, Int.neg_le_neg_iff]
      exact hz _
  have hV2 : (0 : Int) < (V r2 : Int) := by
    have : V r2 ≠ 0 := fun h => h0 (V_eqz.1 h)
    omega
  have key := to_signed (neg := !(n1 == n2)) (more := decide (ρ ≠ 0)) hQlt (e := e) (by omega) (fun hmo => ?_) (P := fun z => z * (V r2 : Int) ≤ sg (!(n1 == n2)) (V r1 * 2 ^ c)) (Q := fun z => sg (!(n1 == n2)) (V r1 * 2 ^ c) ≤ z * (V r2 : Int))
    (fun a b h3 h4 => Int.le_trans (Int.mul_le_mul_of_nonneg_right h3 (Int.le_of_lt hV2)) h4) (fun a b h3 h4 => Int.le_trans h4 (Int.mul_le_mul_of_nonneg_right h3 (Int.le_of_lt hV2)))
    (fun hn z hz h3 => ?_) (fun hn z hz h3 => ?_) (fun w E n hE => ?_) (fun hmo E hE z => ?_)
  · have eq1 : ∀ down, round_Div M0 (wd n1 r1) (wd n2 r2) down = (round_exact_to M0 (ex (!(n1 == n2)) Q e (decide (ρ ≠ 0))) down, 0) := by
      intro down
      unfold round_Div
      rw [htwo, eq_zero_wd (Nat.le_of_lt h2), decide_eq_false h0]
      dsimp only
      rw [s1, s2, a1, a3, w1, w2, b1, b3, hdx]
      rw [show (ex n1 N ((e1 : Int) - 1074 - k) false).hi = ((N / m64 : Nat) : Int) from rfl, show (ex n1 N ((e1 : Int) - 1074 - k) false).lo = ((N % m64 : Nat) : Int) from rfl, show (ex n1 N ((e1 : Int) - 1074 - k) false).neg = n1 from rfl, show (ex n1 N ((e1 : Int) - 1074 - k) false).e = (e1 : Int) - 1074 - k from rfl]
      dsimp only
      have f1' : bits_Div64 M0 0 ((N / m64 : Nat) : Int) ((d : Nat) : Int) = (((N / m64 / d : Nat) : Int), ((N / m64 % d : Nat) : Int)) := f1
      rw [f1']
      dsimp only
      rw [f3]
      dsimp only
      rw [hwe, hex]
      rfl
    have eq2 : ∀ down, round_exact_to.ok M0 (ex (!(n1 == n2)) Q e (decide (ρ ≠ 0))) down = true → round_Div.ok M0 (wd n1 r1) (wd n2 r2) down = true := by
      intro down h
      unfold round_Div.ok
      rw [htwo, eq_zero_wd (Nat.le_of_lt h2), decide_eq_false h0, twook_wd (Nat.le_of_lt h1) (Nat.le_of_lt h2), splitok_wd (Nat.le_of_lt h1), splitok_wd (Nat.le_of_lt h2)]
      dsimp only
      rw [s1, s2, a1, a2, a3, a4, w1, w2, b1, b2, b3, b4, hdx]
      rw [show (ex n1 N ((e1 : Int) - 1074 - k) false).hi = ((N / m64 : Nat) : Int) from rfl, show (ex n1 N ((e1 : Int) - 1074 - k) false).lo = ((N % m64 : Nat) : Int) from rfl, show (ex n1 N ((e1 : Int) - 1074 - k) false).neg = n1 from rfl, show (ex n1 N ((e1 : Int) - 1074 - k) false).e = (e1 : Int) - 1074 - k from rfl]
      dsimp only
      have f1' : bits_Div64 M0 0 ((N / m64 : Nat) : Int) ((d : Nat) : Int) = (((N / m64 / d : Nat) : Int), ((N / m64 % d : Nat) : Int)) := f1
      have f2' : bits_Div64.ok M0 0 ((N / m64 : Nat) : Int) ((d : Nat) : Int) = true := f2
      rw [f1', f2']
      dsimp only
      rw [f3, f4]
      dsimp only
      rw [hwe, hex, h]
      rfl
    obtain ⟨⟨s, x1, x2, x3⟩, ⟨t, y1, y2, y3⟩⟩ := key
    exact ⟨⟨s, by rw [eq1, x1], eq2 _ x2, x3⟩, ⟨t, by rw [eq1, y1], eq2 _ y2, y3⟩⟩
  · left
    rw [decide_eq_true_eq] at hmo
    have hm1 : m1 ≠ 0 := by
      intro h
      rw [h, Nat.zero_mul] at hN
      rw [hN] at hρ
      simp at hρ
      exact hmo hρ
    have h3 : 2 ^ 116 ≤ N := lt_blen.1 (by have := hNlen hm1; omega)
    have h4 : 2 ^ 53 ≤ Q := by
      rw [hQ]
      refine (Nat.le_div_iff_mul_le (by omega)).2 ?_
      have : 2 ^ 53 * d ≤ 2 ^ 53 * 2 ^ 53 := Nat.mul_le_mul_left _ (Nat.le_of_lt hdlt)
      omega
    exact lt_blen.2 h4
  · rw [hn, sgt] at h3
    have := Int.mul_pos hz hV2
    omega
  · rw [hn, sgf] at h3
    have := Int.mul_neg_of_neg_of_pos hz hV2
    omega
  · obtain ⟨x1, x2⟩ := sides (w * 2 ^ E)
    obtain ⟨x3, x4⟩ := scale (w * 2 ^ E)
    rw [x1, x2, x3, x4]
    have x5 : w * 2 ^ E * d * 2 ^ (e2 + k) = w * 2 ^ n * d * 2 ^ (e1 + j + c) := by
      have : E + (e2 + k) = n + (e1 + j + c) := by omega
      rw [Nat.mul_right_comm w, Nat.mul_assoc (w * d), ← Nat.pow_add, this, Nat.pow_add, ← Nat.mul_assoc, Nat.mul_right_comm w d]
    have hp := Nat.two_pow_pos (e1 + j + c)
    rw [x5]
    have x6 : ∀ a b : Nat, a * 2 ^ (e1 + j + c) ≤ b * 2 ^ (e1 + j + c) ↔ a ≤ b := fun a b => ⟨fun h => Nat.le_of_mul_le_mul_right h hp, fun h => Nat.mul_le_mul_right _ h⟩
    rw [x6, x6]
    generalize w * 2 ^ n = W
    have x7 : (W * d ≤ N ↔ W ≤ Q) := by rw [hQ]; exact (Nat.le_div_iff_mul_le (by omega)).symm
    refine ⟨x7, ?_⟩
    by_cases hz : ρ = 0
    · rw [decide_eq_false (by omega), Bool.toNat_false, Nat.add_zero, hQd, hz, Nat.add_zero]
      exact ⟨fun h => Nat.le_of_mul_le_mul_right h (by omega), fun h => Nat.mul_le_mul_right _ h⟩
    · rw [decide_eq_true hz, Bool.toNat_true]
      constructor
      · intro h
        rcases Nat.lt_or_ge Q W with h5 | h5
        · exact h5
        · exfalso
          have : W * d ≤ Q * d := Nat.mul_le_mul_right _ h5
          omega
      · intro h
        have : (Q + 1) * d ≤ W * d := Nat.mul_le_mul_right _ h
        rw [Nat.add_mul] at this
        omega
  · obtain ⟨x1, x2⟩ := sides z
    obtain ⟨x3, x4⟩ := scale z
    rw [x1, x2, x3, x4]
    have hz : ρ = 0 := by
      have := of_decide_eq_false hmo
      omega
    have x5 : N * 2 ^ (e1 + j + c) = Q * 2 ^ E * (d * 2 ^ (e2 + k)) := by
      have : e1 + j + c = E + (e2 + k) := by omega
      rw [hQd, hz, Nat.add_zero, this, Nat.pow_add]
      simp only [Nat.mul_assoc, Nat.mul_comm, Nat.mul_left_comm]
    have hp : 0 < d * 2 ^ (e2 + k) := Nat.mul_pos (by omega) (Nat.two_pow_pos _)
    rw [x5, Nat.mul_assoc z]
    exact ⟨⟨fun h => Nat.le_of_mul_le_mul_right h hp, fun h => Nat.mul_le_mul_right _ h⟩, ⟨fun h => Nat.le_of_mul_le_mul_right h hp, fun h => Nat.mul_le_mul_right _ h⟩⟩

end Go.Lan
