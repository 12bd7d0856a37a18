/- round.Sqrt. -/
import Derived.Test.YtpgjihkaocahbaaMs
namespace Go.Lan

attribute [local irreducible] B

/-- Two words, compared. -/
theorem le_words {T N : Nat} : (T / m64 < N / m64 ∨ T / m64 = N / m64 ∧ T % m64 ≤ N % m64) ↔ T ≤ N := by
  have hm := hm64
  have h1 := Nat.div_add_mod T m64
  have h2 := Nat.div_add_mod N m64
  have h3 : T % m64 < m64 := Nat.mod_lt _ (by omega)
  have h4 : N % m64 < m64 := Nat.mod_lt _ (by omega)
  rw [hm] at *
  omega

/-- The root's digits down to the place p are right. -/
structure RInv (N r p : Nat) : Prop where
  mul : r % 2 ^ p = 0
  le : r * r ≤ N
  lt : N < (r + 2 ^ p) * (r + 2 ^ p)

theorem root_bound {N r p : Nat} (hN : N < 2 ^ 116) (h : RInv N r p) : r < 2 ^ 58 := by
  rcases Nat.lt_or_ge r (2 ^ 58) with h1 | h1
  · exact h1
  · exfalso
    have : 2 ^ 58 * 2 ^ 58 ≤ r * r := Nat.mul_le_mul h1 h1
    have := h.le
    omega

theorem root_next {N r p : Nat} (h : RInv N r (p + 1)) : RInv N (if (r + 2 ^ p) * (r + 2 ^ p) ≤ N then r + 2 ^ p else r) p := by
  have hp := Nat.two_pow_pos p
  have hs : 2 ^ (p + 1) = 2 ^ p + 2 ^ p := by rw [Nat.pow_succ]; omega
  have hmod : r % 2 ^ p = 0 := by
    have h1 := h.mul
    have h2 : 2 ^ p ∣ 2 ^ (p + 1) := Nat.pow_dvd_pow 2 (Nat.le_succ p)
    exact Nat.mod_eq_zero_of_dvd (Nat.dvd_trans h2 (Nat.dvd_of_mod_eq_zero h1))
  by_cases hc : (r + 2 ^ p) * (r + 2 ^ p) ≤ N
  · rw [if_pos hc]
    refine ⟨by rw [Nat.add_mod, hmod, Nat.mod_self, Nat.add_zero, Nat.zero_mod], hc, ?_⟩
    have := h.lt
    rw [hs, ← Nat.add_assoc] at this
    exact this
  · rw [if_neg hc]
    exact ⟨hmod, h.le, by omega⟩

theorem root_step {N r i : Nat} (hN : N < 2 ^ 116) (hi : i < 58) (h : RInv N r (58 - i)) :
    round_root.L3.step M0 (((N / m64 : Nat) : Int), ((N % m64 : Nat) : Int), (r : Int), (i : Int)) =
      some (true, (((N / m64 : Nat) : Int), ((N % m64 : Nat) : Int), (((if (r + 2 ^ (57 - i)) * (r + 2 ^ (57 - i)) ≤ N then r + 2 ^ (57 - i) else r : Nat)) : Int), ((i + 1 : Nat) : Int))) := by
  have hm := hm64
  have hr := root_bound hN h
  have hp : 2 ^ (57 - i) ≤ 2 ^ 57 := Nat.pow_le_pow_right (by omega) (by omega)
  have x2 : IntKind.i64.wrap (57 - ((i : Nat) : Int)) = ((57 - i : Nat) : Int) := by rw [i_in (by omega)]; omega
  have x3 : shlV .u64 1 ((57 - i : Nat) : Int) = ((2 ^ (57 - i) : Nat) : Int) := by
    have := u_shl 1 (57 - i)
    rw [Nat.one_mul, Nat.mod_eq_of_lt (by omega)] at this
    exact this
  have x4 : M0.or .u64 (r : Int) ((2 ^ (57 - i) : Nat) : Int) = ((r + 2 ^ (57 - i) : Nat) : Int) := by
    rw [u_or (by omega) (by omega)]
    congr 1
    have h1 := Nat.div_add_mod r (2 ^ (58 - i))
    rw [h.mul, Nat.add_zero, Nat.mul_comm] at h1
    have h2 := or_add (a := r / 2 ^ (58 - i)) (b := 2 ^ (57 - i)) (k := 58 - i) (Nat.pow_lt_pow_right (by omega) (by omega))
    rw [h1] at h2
    exact h2
  obtain ⟨t, ht⟩ : ∃ t, t = r + 2 ^ (57 - i) := ⟨_, rfl⟩
  have x5 : bits_Mul64 M0 (t : Int) (t : Int) = (((t * t / m64 : Nat) : Int), ((t * t % m64 : Nat) : Int)) := mul64 (by omega) (by omega)
  have x6 : IntKind.i64.wrap (((i : Nat) : Int) + 1) = ((i + 1 : Nat) : Int) := by rw [i_in (by omega)]; omega
  have hle := @le_words (t * t) N
  unfold round_root.L3.step round_root.L3.k
  dsimp only
  rw [decide_eq_true (show ((i : Nat) : Int) < 58 by omega), cond_true, x2, decide_eq_true (show (0 : Int) ≤ ((57 - i : Nat) : Int) by omega), cond_true, x3, x4, ← ht, x5, x6]
  dsimp only
  by_cases c1 : t * t / m64 < N / m64
  · rw [decide_eq_true (show ((t * t / m64 : Nat) : Int) < ((N / m64 : Nat) : Int) by omega), cond_true, if_pos (hle.1 (.inl c1))]
  · rw [decide_eq_false (show ¬ ((t * t / m64 : Nat) : Int) < ((N / m64 : Nat) : Int) by omega), cond_false]
    by_cases c2 : t * t / m64 = N / m64
    · rw [show (((t * t / m64 : Nat) : Int) == ((N / m64 : Nat) : Int)) = true by rw [beq_iff_eq]; omega, cond_true]
      by_cases c3 : t * t % m64 ≤ N % m64
      · rw [decide_eq_true (show ((t * t % m64 : Nat) : Int) ≤ ((N % m64 : Nat) : Int) by omega), cond_true, if_pos (hle.1 (.inr ⟨c2, c3⟩))]
      · rw [decide_eq_false (show ¬ ((t * t % m64 : Nat) : Int) ≤ ((N % m64 : Nat) : Int) by omega), cond_false, if_neg]
        intro h1
        rcases hle.2 h1 with h2 | h2
        · exact c1 h2
        · exact c3 h2.2
    · rw [show (((t * t / m64 : Nat) : Int) == ((N / m64 : Nat) : Int)) = false by rw [beq_eq_false_iff_ne]; omega, cond_false, if_neg]
      intro h1
      rcases hle.2 h1 with h2 | h2
      · exact c1 h2
      · exact c2 h2.1

theorem root_run {N : Nat} (hN : N < 2 ^ 116) : ∀ (n i r : Nat), i + n = 58 → RInv N r (58 - i) →
    ∃ q : Nat, q * q ≤ N ∧ N < (q + 1) * (q + 1) ∧ runL (round_root.L3.step M0) (n + 2) (((N / m64 : Nat) : Int), ((N % m64 : Nat) : Int), (r : Int), (i : Int)) = some (((N / m64 : Nat) : Int), ((N % m64 : Nat) : Int), (q : Int), 58)
  | 0, i, r, hi, h => by
    have hi' : i = 58 := by omega
    subst hi'
    refine ⟨r, h.le, ?_, rfl⟩
    have := h.lt
    simpa using this
  | n + 1, i, r, hi, h => by
    have hi' : i < 58 := by omega
    rw [show n + 1 + 2 = (n + 2) + 1 from rfl]
    simp only [runL]
    rw [root_step hN hi' h]
    dsimp only
    refine root_run hN n (i + 1) _ (by omega) ?_
    rw [show 58 - (i + 1) = 57 - i by omega]
    rw [show 58 - i = 57 - i + 1 by omega] at h
    exact root_next h

theorem root_eq {N : Nat} (hN : N < 2 ^ 116) : ∃ q : Nat, q * q ≤ N ∧ N < (q + 1) * (q + 1) ∧ round_root M0 ((N / m64 : Nat) : Int) ((N % m64 : Nat) : Int) = ((q : Int), decide (q * q ≠ N)) ∧ round_root.ok M0 ((N / m64 : Nat) : Int) ((N % m64 : Nat) : Int) = true := by
  have hm := hm64
  obtain ⟨q, h1, h2, h3⟩ := root_run hN 58 0 0 rfl ⟨Nat.zero_mod _, by omega, by
    rw [Nat.zero_add]
    have : 2 ^ (58 - 0) * 2 ^ (58 - 0) = 2 ^ 116 := by decide
    rw [this]; exact hN⟩
  have hq : q < 2 ^ 58 := by
    rcases Nat.lt_or_ge q (2 ^ 58) with h | h
    · exact h
    · have : 2 ^ 58 * 2 ^ 58 ≤ q * q := Nat.mul_le_mul h h
      omega
  refine ⟨q, h1, h2, ?_, ?_⟩
  · have hL : round_root.L3 M0 ((N / m64 : Nat) : Int) ((N % m64 : Nat) : Int) 0 0 = (((N / m64 : Nat) : Int), ((N % m64 : Nat) : Int), (q : Int), 58) := by
      unfold round_root.L3
      have e : ((0 : Nat) : Int) = 0 := rfl
      rw [e] at h3
      rw [h3]; rfl
    have x5 : bits_Mul64 M0 (q : Int) (q : Int) = (((q * q / m64 : Nat) : Int), ((q * q % m64 : Nat) : Int)) := mul64 (by omega) (by omega)
    unfold round_root
    rw [hL]
    dsimp only
    rw [x5]
    dsimp only
    have d1 := Nat.div_add_mod (q * q) m64
    have d2 := Nat.div_add_mod N m64
    by_cases c1 : q * q / m64 = N / m64
    · rw [show (((q * q / m64 : Nat) : Int) != ((N / m64 : Nat) : Int)) = false by rw [bne_eq_false_iff_eq]; omega, cond_false]
      congr 1
      rw [Bool.eq_iff_iff, bne_iff_ne, decide_eq_true_eq]
      rw [c1] at d1
      omega
    · rw [show (((q * q / m64 : Nat) : Int) != ((N / m64 : Nat) : Int)) = true by rw [bne_iff_ne]; omega, cond_true, decide_eq_true]
      intro h
      rw [h] at c1
      exact c1 rfl
  · unfold round_root.ok round_root.L3.ok
    have e : ((0 : Nat) : Int) = 0 := rfl
    rw [e] at h3
    rw [h3]
    rfl

theorem lt_zero_wd {n : Bool} {r : Nat} (h : r ≤ I) : M0.lt (wd n r) 0 = decide (n = true ∧ r ≠ 0) := by
  show (D.order (wd n r) (wd false 0) == some .lt) = _
  rw [order_wd h (Nat.zero_le _), Bool.eq_iff_iff]
  simp only [beq_iff_eq, Option.some.injEq, compare_int_lt, decide_eq_true_eq, K]
  cases n <;> simp [sg] <;> omega

theorem sq_pow (w E K : Nat) : w * 2 ^ E * (w * 2 ^ E) * 2 ^ K = w * w * 2 ^ (E + E + K) := by
  rw [Nat.mul_mul_mul_comm, ← Nat.pow_add, Nat.mul_assoc, ← Nat.pow_add]

theorem sqrt_spec {r1 : Nat} (h1 : r1 < I) (h0 : r1 ≠ 0) {c : Nat} (hc : c = 1074) :
    (∃ s, round_Sqrt M0 (wd false r1) true = (F s, 0) ∧ round_Sqrt.ok M0 (wd false r1) true = true ∧ isD s (fun z => z < 0 ∨ z * z ≤ ((V r1 * 2 ^ c : Nat) : Int))) ∧
    (∃ s, round_Sqrt M0 (wd false r1) false = (F s, 0) ∧ round_Sqrt.ok M0 (wd false r1) false = true ∧ isU s (fun z => 0 ≤ z ∧ ((V r1 * 2 ^ c : Nat) : Int) ≤ z * z)) := by
  have hB := B_eq
  have hBv := B_val
  have hm := hm64
  have hmm : m64 * m64 = 2 ^ 128 := by decide
  obtain ⟨m1, e1, s1, v1, _, l1, _, k1⟩ := split_wd (neg := false) h1
  have hm1 : m1 ≠ 0 := by
    intro e
    rw [e, Nat.zero_mul] at v1
    exact h0 (V_eqz.1 v1)
  have hb1 : blen m1 ≤ 53 := blen_le.2 (by omega)
  obtain ⟨k, hk⟩ : ∃ k, k = 115 - blen m1 := ⟨_, rfl⟩
  obtain ⟨a1, a2⟩ := length_ex false (show m1 < m64 * m64 by omega) ((e1 : Int) - 1074) false
  have w1 : IntKind.i64.wrap (115 - ((blen m1 : Nat) : Int)) = (k : Int) := by rw [i_in (by omega)]; omega
  have hlenk : blen (m1 * 2 ^ k) = 115 := by rw [blen_mul hm1]; omega
  have hltk : m1 * 2 ^ k < 2 ^ 115 := blen_le.1 (Nat.le_of_eq hlenk)
  obtain ⟨b1, b2⟩ := left_ex false (N := m1) (n := k) (by omega) (by omega) ((e1 : Int) - 1074) (by omega) false
  obtain ⟨b3, b4⟩ := left_ex false (N := m1 * 2 ^ k) (n := 1) (by omega) (by omega) ((e1 : Int) - 1074 - k) (by omega) false
  have heo : ∀ e : Int, (ex false (m1 * 2 ^ k) e false).e = e := fun _ => rfl
  have c1 : round_Number M0 (wd false r1) = true := number_wd h1
  have c2 : M0.lt (wd false r1) 0 = false := by rw [lt_zero_wd (Nat.le_of_lt h1), decide_eq_false]; simp
  have c3 : M0.eq (wd false r1) 0 = false := by rw [eq_zero_wd (Nat.le_of_lt h1), decide_eq_false h0]
  -- an even power
  have main : ∀ (K : Nat) (e : Int), K ≤ 120 → e + e = (e1 : Int) - 1074 - K → m1 * 2 ^ K < 2 ^ 116 → 2 ^ 114 ≤ m1 * 2 ^ K → 
      (∀ (q : Nat) (mo : Bool), round_root M0 ((m1 * 2 ^ K / m64 : Nat) : Int) ((m1 * 2 ^ K % m64 : Nat) : Int) = ((q : Int), mo) → round_root.ok M0 ((m1 * 2 ^ K / m64 : Nat) : Int) ((m1 * 2 ^ K % m64 : Nat) : Int) = true → ∀ down, round_Sqrt M0 (wd false r1) down = (round_exact_to M0 ⟨false, 0, (q : Int), e, mo⟩ down, 0) ∧ (round_exact_to.ok M0 ⟨false, 0, (q : Int), e, mo⟩ down = true → round_Sqrt.ok M0 (wd false r1) down = true)) →
      (∃ s, round_Sqrt M0 (wd false r1) true = (F s, 0) ∧ round_Sqrt.ok M0 (wd false r1) true = true ∧ isD s (fun z => z < 0 ∨ z * z ≤ ((V r1 * 2 ^ c : Nat) : Int))) ∧
      (∃ s, round_Sqrt M0 (wd false r1) false = (F s, 0) ∧ round_Sqrt.ok M0 (wd false r1) false = true ∧ isU s (fun z => 0 ≤ z ∧ ((V r1 * 2 ^ c : Nat) : Int) ≤ z * z)) := by
    intro K e hK he hlt hge hgo
    obtain ⟨N, hN⟩ : ∃ N, N = m1 * 2 ^ K := ⟨_, rfl⟩
    rw [← hN] at hlt hge hgo
    obtain ⟨q, q1, q2, q3, q4⟩ := root_eq hlt
    have go := hgo q _ q3 q4
    have hq58 : q < 2 ^ 58 := by
      rcases Nat.lt_or_ge q (2 ^ 58) with h | h
      · exact h
      · have : 2 ^ 58 * 2 ^ 58 ≤ q * q := Nat.mul_le_mul h h
        omega
    have hq57 : 2 ^ 57 ≤ q := by
      rcases Nat.lt_or_ge q (2 ^ 57) with h | h
      · have : (q + 1) * (q + 1) ≤ 2 ^ 57 * 2 ^ 57 := Nat.mul_le_mul h h
        omega
      · exact h
    have hex : (⟨false, 0, (q : Int), e, decide (q * q ≠ N)⟩ : LExact) = ex false q e (decide (q * q ≠ N)) := (ex_small false (by omega) e _).symm
    rw [hex] at go
    have hpk := Nat.two_pow_pos K
    have scale : ∀ z : Nat, (z * z ≤ V r1 * 2 ^ c ↔ z * z * 2 ^ K ≤ N * 2 ^ (e1 + c)) ∧ (V r1 * 2 ^ c ≤ z * z ↔ N * 2 ^ (e1 + c) ≤ z * z * 2 ^ K) := by
      intro z
      have x2 : V r1 * 2 ^ c * 2 ^ K = N * 2 ^ (e1 + c) := by
        rw [v1, hN, Nat.pow_add]
        simp only [Nat.mul_assoc, Nat.mul_comm, Nat.mul_left_comm]
      rw [← x2]
      exact ⟨⟨fun h => Nat.mul_le_mul_right _ h, fun h => Nat.le_of_mul_le_mul_right h hpk⟩, ⟨fun h => Nat.mul_le_mul_right _ h, fun h => Nat.le_of_mul_le_mul_right h hpk⟩⟩
    have hz : ∀ x z : Nat, ((((z : Nat) : Int) < 0 ∨ ((z : Nat) : Int) * ((z : Nat) : Int) ≤ ((x : Nat) : Int)) ↔ z * z ≤ x) ∧ ((0 ≤ ((z : Nat) : Int) ∧ ((x : Nat) : Int) ≤ ((z : Nat) : Int) * ((z : Nat) : Int)) ↔ x ≤ z * z) := fun x z => by
      rw [← Int.natCast_mul, Int.ofNat_le, Int.ofNat_le]
      exact ⟨⟨fun h => h.elim (fun h => by omega) id, .inr⟩, ⟨fun h => h.2, fun h => ⟨by omega, h⟩⟩⟩
    have sq : ∀ {a b : Nat}, a * a ≤ b * b ↔ a ≤ b := fun {a b} => ⟨fun h => by
      rcases Nat.lt_or_ge b a with h1 | h1
      · have : (b + 1) * (b + 1) ≤ a * a := Nat.mul_le_mul h1 h1
        have h2 : (b + 1) * (b + 1) = b * b + b + b + 1 := by rw [Nat.add_mul, Nat.mul_add]; omega
        omega
      · exact h1, fun h => Nat.mul_le_mul h h⟩
    have leq : ∀ W : Nat, W * W ≤ N ↔ W ≤ q := fun W => ⟨fun h => by
      rcases Nat.lt_or_ge q W with h1 | h1
      · have : (q + 1) * (q + 1) ≤ W * W := Nat.mul_le_mul h1 h1
        omega
      · exact h1, fun h => Nat.le_trans (Nat.mul_le_mul h h) q1⟩
    have key := to_signed (neg := false) (more := decide (q * q ≠ N)) (N := q) (by omega) (e := e) (by omega) (fun _ => .inl (lt_blen.2 (by omega))) (P := fun z => z < 0 ∨ z * z ≤ ((V r1 * 2 ^ c : Nat) : Int)) (Q := fun z => 0 ≤ z ∧ ((V r1 * 2 ^ c : Nat) : Int) ≤ z * z)
      (fun a b h3 h4 => by
        rcases Int.lt_or_le a 0 with h5 | h5
        · exact .inl h5
        · refine .inr ?_
          rcases h4 with h4 | h4
          · omega
          · exact Int.le_trans (Int.mul_le_mul h3 h3 h5 (by omega)) h4)
      (fun a b h3 h4 => ⟨by omega, Int.le_trans h4.2 (Int.mul_le_mul h3 h3 h4.1 (by omega))⟩)
      (fun hn => by cases hn) (fun _ z hz h3 => by omega) (fun w E n hE => ?_) (fun hmo E hE z => ?_)
    · obtain ⟨⟨s, x1, x2, x3⟩, ⟨t, y1, y2, y3⟩⟩ := key
      exact ⟨⟨s, by rw [(go true).1, x1], (go true).2 x2, x3⟩, ⟨t, by rw [(go false).1, y1], (go false).2 y2, y3⟩⟩
    · simp only [Bool.false_eq_true, if_false]
      obtain ⟨x1, x2⟩ := hz (V r1 * 2 ^ c) (w * 2 ^ E)
      obtain ⟨x3, x4⟩ := scale (w * 2 ^ E)
      rw [x1, x2, x3, x4]
      have hp := Nat.two_pow_pos (e1 + c)
      have x5 : w * 2 ^ E * (w * 2 ^ E) * 2 ^ K = w * 2 ^ n * (w * 2 ^ n) * 2 ^ (e1 + c) := by
        have : E + E + K = n + n + (e1 + c) := by omega
        rw [sq_pow, sq_pow, this]
      rw [x5]
      have x6 : ∀ a b : Nat, a * 2 ^ (e1 + c) ≤ b * 2 ^ (e1 + c) ↔ a ≤ b := fun a b => ⟨fun h => Nat.le_of_mul_le_mul_right h hp, fun h => Nat.mul_le_mul_right _ h⟩
      rw [x6, x6]
      generalize w * 2 ^ n = W
      refine ⟨leq W, ?_⟩
      by_cases hsq : q * q = N
      · rw [decide_eq_false (by omega), Bool.toNat_false, Nat.add_zero, ← hsq]
        exact sq
      · rw [decide_eq_true hsq, Bool.toNat_true]
        constructor
        · intro h
          rcases Nat.lt_or_ge q W with h5 | h5
          · exact h5
          · have := (leq W).2 h5
            have : W * W ≤ q * q := Nat.mul_le_mul h5 h5
            omega
        · intro h
          have : (q + 1) * (q + 1) ≤ W * W := Nat.mul_le_mul h h
          omega
    · simp only [Bool.false_eq_true, if_false]
      have hsq : q * q = N := by
        have := of_decide_eq_false hmo
        omega
      obtain ⟨x1, x2⟩ := hz (V r1 * 2 ^ c) z
      obtain ⟨x3, x4⟩ := scale z
      rw [x1, x2, x3, x4]
      have x5 : N * 2 ^ (e1 + c) = q * 2 ^ E * (q * 2 ^ E) * 2 ^ K := by
        have : e1 + c = E + E + K := by omega
        rw [← hsq, this, sq_pow]
      rw [x5]
      exact ⟨⟨fun h => sq.1 (Nat.le_of_mul_le_mul_right h hpk), fun h => Nat.mul_le_mul_right _ (sq.2 h)⟩, ⟨fun h => sq.1 (Nat.le_of_mul_le_mul_right h hpk), fun h => Nat.mul_le_mul_right _ (sq.2 h)⟩⟩
  have hge : 2 ^ 114 ≤ m1 * 2 ^ k := lt_blen.1 (by omega)
  by_cases hpar : Int.tmod ((e1 : Int) - 1074 - k) 2 = 0
  · have hev : ((Int.tmod ((e1 : Int) - 1074 - k) 2 : Int) != 0) = false := by rw [bne_eq_false_iff_eq]; exact hpar
    obtain ⟨e, he⟩ : ∃ e : Int, e = Int.tdiv ((e1 : Int) - 1074 - k) 2 := ⟨_, rfl⟩
    have hee : e + e = (e1 : Int) - 1074 - k := by
      have := Int.mul_tdiv_cancel' (Int.dvd_of_tmod_eq_zero hpar)
      rw [← he] at this
      omega
    have hwe : IntKind.i64.wrap e = e := i_in (by omega)
    refine main k e (by omega) hee (by omega) hge fun q mo g1 g2 down => ⟨?_, fun g3 => ?_⟩
    · unfold round_Sqrt
      rw [c1, c2, c3]
      dsimp only
      rw [s1, a1, w1, b1]
      rw [heo, hev, ← he, hwe, show (ex false (m1 * 2 ^ k) ((e1 : Int) - 1074 - k) false).hi = ((m1 * 2 ^ k / m64 : Nat) : Int) from rfl, show (ex false (m1 * 2 ^ k) ((e1 : Int) - 1074 - k) false).lo = ((m1 * 2 ^ k % m64 : Nat) : Int) from rfl, g1]
      rfl
    · unfold round_Sqrt.ok
      rw [c1, c2, c3, numberok_wd (Nat.le_of_lt h1), splitok_wd (Nat.le_of_lt h1)]
      dsimp only
      rw [s1, a1, a2, w1, b1, b2]
      rw [heo, hev, ← he, hwe, show (ex false (m1 * 2 ^ k) ((e1 : Int) - 1074 - k) false).hi = ((m1 * 2 ^ k / m64 : Nat) : Int) from rfl, show (ex false (m1 * 2 ^ k) ((e1 : Int) - 1074 - k) false).lo = ((m1 * 2 ^ k % m64 : Nat) : Int) from rfl, g1, g2]
      dsimp only
      rw [g3]
      rfl
  · have hev : ((Int.tmod ((e1 : Int) - 1074 - k) 2 : Int) != 0) = true := by rw [bne_iff_ne]; exact hpar
    have hodd : ((e1 : Int) - 1074 - k) % 2 = 1 := by
      have h3 : Int.tmod ((e1 : Int) - 1074 - k) 2 = 0 ↔ (2 : Int) ∣ ((e1 : Int) - 1074 - k) := Int.dvd_iff_tmod_eq_zero.symm
      rw [h3] at hpar
      omega
    have hk1 : m1 * 2 ^ k * 2 ^ 1 = m1 * 2 ^ (k + 1) := by rw [Nat.mul_assoc, ← Nat.pow_add]
    rw [hk1] at b3
    obtain ⟨e, he⟩ : ∃ e : Int, e = Int.tdiv ((e1 : Int) - 1074 - k - (1 : Nat)) 2 := ⟨_, rfl⟩
    have hee : e + e = (e1 : Int) - 1074 - (k + 1 : Nat) := by
      have h4 : (2 : Int) ∣ ((e1 : Int) - 1074 - k - (1 : Nat)) := by omega
      have := Int.mul_tdiv_cancel' h4
      rw [← he] at this
      omega
    have hwe : IntKind.i64.wrap e = e := i_in (by omega)
    have b3' : round_exact_left M0 (ex false (m1 * 2 ^ k) ((e1 : Int) - 1074 - k) false) 1 = ex false (m1 * 2 ^ (k + 1)) ((e1 : Int) - 1074 - k - (1 : Nat)) false := b3
    have b4' : round_exact_left.ok M0 (ex false (m1 * 2 ^ k) ((e1 : Int) - 1074 - k) false) 1 = true := b4
    have heo2 : (ex false (m1 * 2 ^ (k + 1)) ((e1 : Int) - 1074 - k - (1 : Nat)) false).e = ((e1 : Int) - 1074 - k - (1 : Nat)) := rfl
    refine main (k + 1) e (by omega) hee (by rw [← hk1]; omega) (by rw [← hk1]; omega) fun q mo g1 g2 down => ⟨?_, fun g3 => ?_⟩
    · unfold round_Sqrt
      rw [c1, c2, c3]
      dsimp only
      rw [s1, a1, w1, b1]
      rw [heo, hev, b3', heo2, ← he, hwe, show (ex false (m1 * 2 ^ (k + 1)) ((e1 : Int) - 1074 - k - (1 : Nat)) false).hi = ((m1 * 2 ^ (k + 1) / m64 : Nat) : Int) from rfl, show (ex false (m1 * 2 ^ (k + 1)) ((e1 : Int) - 1074 - k - (1 : Nat)) false).lo = ((m1 * 2 ^ (k + 1) % m64 : Nat) : Int) from rfl, g1]
      rfl
    · unfold round_Sqrt.ok
      rw [c1, c2, c3, numberok_wd (Nat.le_of_lt h1), splitok_wd (Nat.le_of_lt h1)]
      dsimp only
      rw [s1, a1, a2, w1, b1, b2]
      rw [heo, hev, b3', b4', heo2, ← he, hwe, show (ex false (m1 * 2 ^ (k + 1)) ((e1 : Int) - 1074 - k - (1 : Nat)) false).hi = ((m1 * 2 ^ (k + 1) / m64 : Nat) : Int) from rfl, show (ex false (m1 * 2 ^ (k + 1)) ((e1 : Int) - 1074 - k - (1 : Nat)) false).lo = ((m1 * 2 ^ (k + 1) % m64 : Nat) : Int) from rfl, g1, g2]
      dsimp only
      rw [g3]
      rfl

end Go.Lan
