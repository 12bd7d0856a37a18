import Derived.Test.YtpgjihkaocahbaaGreatGMwNc
/- The document's quotients and roots are the program's. -/
namespace Go.Lan

attribute [local irreducible] B

/-- A quotient by its whole part and whether there is a rest. -/
theorem div_core {neg : Bool} {r1 r2 m1 m2 e1 e2 k j N d Q ρ c : Nat} {e : Int} (h0 : r2 ≠ 0) (hc : c = 1074) (v1 : V r1 = m1 * 2 ^ e1) (v2 : V r2 = m2 * 2 ^ e2) (hN : N = m1 * 2 ^ k) (hd : d = m2 * 2 ^ j) (hd0 : 0 < d)
    (hQ : Q = N / d) (hQd : N = Q * d + ρ) (hρd : ρ < d) (hQlt : Q < m64 * m64) (hmore : ρ ≠ 0 → 53 < blen Q) (he : e = (e1 : Int) - 1074 - k - ((e2 : Int) - 1074 - j)) (hee : -5000 < e ∧ e < 5000) :
    (∃ s, round_exact_to M0 (ex neg Q e (decide (ρ ≠ 0))) true = F s ∧ round_exact_to.ok M0 (ex neg Q e (decide (ρ ≠ 0))) true = true ∧ isD s (fun z => z * (V r2 : Int) ≤ sg neg (V r1 * 2 ^ c))) ∧
    (∃ s, round_exact_to M0 (ex neg Q e (decide (ρ ≠ 0))) false = F s ∧ round_exact_to.ok M0 (ex neg Q e (decide (ρ ≠ 0))) false = true ∧ isU s (fun z => sg neg (V r1 * 2 ^ c) ≤ z * (V r2 : Int))) := by
  -- sizes
  have hpk := Nat.two_pow_pos (k + j)
  have scale : ∀ z : Nat, (z * V r2 ≤ V r1 * 2 ^ c ↔ z * d * 2 ^ (e2 + k) ≤ N * 2 ^ (e1 + j + c)) ∧ (V r1 * 2 ^ c ≤ z * V r2 ↔ N * 2 ^ (e1 + j + c) ≤ z * d * 2 ^ (e2 + k)) := by
    intro z
    have x1 : z * V r2 * 2 ^ (k + j) = z * d * 2 ^ (e2 + k) := by
      rw [v2, hd, Nat.pow_add, Nat.pow_add]
      simp only [Nat.mul_assoc, Nat.mul_comm, Nat.mul_left_comm]
    have x2 : V r1 * 2 ^ c * 2 ^ (k + j) = N * 2 ^ (e1 + j + c) := by
      rw [v1, hN, Nat.pow_add, Nat.pow_add, Nat.pow_add]
      simp only [Nat.mul_assoc, Nat.mul_comm, Nat.mul_left_comm]
    rw [← x1, ← x2]
    exact ⟨⟨fun h => Nat.mul_le_mul_right _ h, fun h => Nat.le_of_mul_le_mul_right h hpk⟩, ⟨fun h => Nat.mul_le_mul_right _ h, fun h => Nat.le_of_mul_le_mul_right h hpk⟩⟩
  have sides : ∀ z : Nat, ((if neg then sg neg (V r1 * 2 ^ c) ≤ -(z : Int) * (V r2 : Int) else (z : Int) * (V r2 : Int) ≤ sg neg (V r1 * 2 ^ c)) ↔ z * V r2 ≤ V r1 * 2 ^ c) ∧
      ((if neg then -(z : Int) * (V r2 : Int) ≤ sg neg (V r1 * 2 ^ c) else sg neg (V r1 * 2 ^ c) ≤ (z : Int) * (V r2 : Int)) ↔ V r1 * 2 ^ c ≤ z * V r2) := by
    intro z
    have hz : ∀ x : Nat, ((z : Int) * (V r2 : Int) ≤ (x : Int) ↔ z * V r2 ≤ x) ∧ ((x : Int) ≤ (z : Int) * (V r2 : Int) ↔ x ≤ z * V r2) := fun x => by
      rw [← Int.natCast_mul, Int.ofNat_le, Int.ofNat_le]
      exact ⟨Iff.rfl, Iff.rfl⟩
    cases neg
    · rw [sgf]
      simp only [Bool.false_eq_true, if_false]
      exact hz _
    · rw [sgt]
      simp only [if_true]
      rw [Int.neg_mul, Int.neg_le_neg_iff, Int.neg_le_neg_iff]
      exact hz _
  have hV2 : (0 : Int) < (V r2 : Int) := by
    have : V r2 ≠ 0 := fun h => h0 (V_eqz.1 h)
    omega
  refine to_signed (neg := neg) (more := decide (ρ ≠ 0)) hQlt (e := e) hee (fun hmo => .inl (hmore (of_decide_eq_true hmo))) (P := fun z => z * (V r2 : Int) ≤ sg neg (V r1 * 2 ^ c)) (Q := fun z => sg neg (V r1 * 2 ^ c) ≤ z * (V r2 : Int))
    (fun a b h3 h4 => Int.le_trans (Int.mul_le_mul_of_nonneg_right h3 (Int.le_of_lt hV2)) h4) (fun a b h3 h4 => Int.le_trans h4 (Int.mul_le_mul_of_nonneg_right h3 (Int.le_of_lt hV2)))
    (fun hn z hz h3 => ?_) (fun hn z hz h3 => ?_) (fun w E n hE => ?_) (fun hmo E hE z => ?_)
  · rw [hn, sgt] at h3
    have := Int.mul_pos hz hV2
    omega
  · rw [hn, sgf] at h3
    have := Int.mul_neg_of_neg_of_pos hz hV2
    omega
  · obtain ⟨x1, x2⟩ := sides (w * 2 ^ E)
    obtain ⟨x3, x4⟩ := scale (w * 2 ^ E)
    rw [x1, x2, x3, x4]
    have x5 : w * 2 ^ E * d * 2 ^ (e2 + k) = w * 2 ^ n * d * 2 ^ (e1 + j + c) := by
      have : E + (e2 + k) = n + (e1 + j + c) := by omega
      rw [Nat.mul_right_comm w, Nat.mul_assoc (w * d), ← Nat.pow_add, this, Nat.pow_add, ← Nat.mul_assoc, Nat.mul_right_comm w d]
    have hp := Nat.two_pow_pos (e1 + j + c)
    rw [x5]
    have x6 : ∀ a b : Nat, a * 2 ^ (e1 + j + c) ≤ b * 2 ^ (e1 + j + c) ↔ a ≤ b := fun a b => ⟨fun h => Nat.le_of_mul_le_mul_right h hp, fun h => Nat.mul_le_mul_right _ h⟩
    rw [x6, x6]
    generalize w * 2 ^ n = W
    have x7 : (W * d ≤ N ↔ W ≤ Q) := by rw [hQ]; exact (Nat.le_div_iff_mul_le (by omega)).symm
    refine ⟨x7, ?_⟩
    by_cases hz : ρ = 0
    · rw [decide_eq_false (by omega), Bool.toNat_false, Nat.add_zero, hQd, hz, Nat.add_zero]
      exact ⟨fun h => Nat.le_of_mul_le_mul_right h (by omega), fun h => Nat.mul_le_mul_right _ h⟩
    · rw [decide_eq_true hz, Bool.toNat_true]
      constructor
      · intro h
        rcases Nat.lt_or_ge Q W with h5 | h5
        · exact h5
        · exfalso
          have : W * d ≤ Q * d := Nat.mul_le_mul_right _ h5
          omega
      · intro h
        have : (Q + 1) * d ≤ W * d := Nat.mul_le_mul_right _ h
        rw [Nat.add_mul] at this
        omega
  · obtain ⟨x1, x2⟩ := sides z
    obtain ⟨x3, x4⟩ := scale z
    rw [x1, x2, x3, x4]
    have hz : ρ = 0 := by
      have := of_decide_eq_false hmo
      omega
    have x5 : N * 2 ^ (e1 + j + c) = Q * 2 ^ E * (d * 2 ^ (e2 + k)) := by
      have : e1 + j + c = E + (e2 + k) := by omega
      rw [hQd, hz, Nat.add_zero, this, Nat.pow_add]
      simp only [Nat.mul_assoc, Nat.mul_comm, Nat.mul_left_comm]
    have hp : 0 < d * 2 ^ (e2 + k) := Nat.mul_pos (by omega) (Nat.two_pow_pos _)
    rw [x5, Nat.mul_assoc z]
    exact ⟨⟨fun h => Nat.le_of_mul_le_mul_right h hp, fun h => Nat.mul_le_mul_right _ h⟩, ⟨fun h => Nat.le_of_mul_le_mul_right h hp, fun h => Nat.mul_le_mul_right _ h⟩⟩


/-! ### The loop of the quotient -/
theorem div_step {down p q am bm : Bool} {ah al ae bh be : Int} {d i out rest : Nat} (hi : i < 60) (ho : out < 2 ^ 60) (hr : rest < 2 * d) (hd : d < 2 ^ 53) :
    lanternref01_Div.L14.step M0 (down, p, q, (rest : Int), (out : Int), (i : Int), ah, al, ae, am, bh, (d : Int), be, bm) =
      some (true, (down, p, q, ((2 * (rest - (if d ≤ rest then d else 0)) : Nat) : Int), ((2 * out + (if d ≤ rest then 1 else 0) : Nat) : Int), ((i + 1 : Nat) : Int), ah, al, ae, am, bh, (d : Int), be, bm)) := by
  have hm := hm64
  have x1 : shlV .u64 (out : Int) 1 = ((2 * out : Nat) : Int) := by
    have := u_shl out 1
    rw [Nat.pow_one, Nat.mod_eq_of_lt (by omega), Nat.mul_comm] at this
    exact this
  have x2 : ∀ z : Nat, z < 2 ^ 60 → shlV .u64 (z : Int) 1 = ((2 * z : Nat) : Int) := fun z hz => by
    have := u_shl z 1
    rw [Nat.pow_one, Nat.mod_eq_of_lt (by omega), Nat.mul_comm] at this
    exact this
  have x3 : IntKind.i64.wrap ((i : Int) + 1) = ((i + 1 : Nat) : Int) := by rw [i_in (by omega)]; omega
  have x4 : M0.or .u64 ((2 * out : Nat) : Int) 1 = ((2 * out + 1 : Nat) : Int) := by
    have h1 := u_or (a := 2 * out) (b := 1) (by omega) (by omega)
    have h2 := or_add (a := out) (b := 1) (k := 1) (by decide)
    rw [Nat.pow_one, Nat.mul_comm out 2] at h2
    rw [h2] at h1
    exact h1
  unfold lanternref01_Div.L14.step lanternref01_Div.L14.k
  dsimp only
  rw [decide_eq_true (show (i : Int) < 60 by omega), cond_true, x1, x3, x4]
  by_cases h : d ≤ rest
  · have x5 : IntKind.u64.wrap ((rest : Int) - (d : Int)) = ((rest - d : Nat) : Int) := by
      rw [show (rest : Int) - (d : Int) = ((rest - d : Nat) : Int) by omega]
      exact u_wrap_lt (by omega)
    rw [decide_eq_true (show (rest : Int) ≥ (d : Int) by omega), cond_true, x5, x2 _ (by omega), if_pos h, if_pos h]
  · rw [decide_eq_false (show ¬ (rest : Int) ≥ (d : Int) by omega), cond_false, x2 _ (by omega), if_neg h, if_neg h, Nat.sub_zero]
    rfl

theorem div_run {down p q am bm : Bool} {ah al ae bh be : Int} {A d : Nat} (hd0 : 0 < d) (hd : d < 2 ^ 53) : ∀ (n i out rest fuel : Nat), n < fuel → i + n = 60 → A * 2 ^ i = 2 * out * d + rest → rest < 2 * d → out < 2 ^ i → rest % 2 = 0 ∨ i = 0 →
    ∃ out' rest' : Nat, runL (lanternref01_Div.L14.step M0) fuel (down, p, q, (rest : Int), (out : Int), (i : Int), ah, al, ae, am, bh, (d : Int), be, bm) = some (down, p, q, (rest' : Int), (out' : Int), 60, ah, al, ae, am, bh, (d : Int), be, bm) ∧
      A * 2 ^ 60 = 2 * out' * d + rest' ∧ rest' < 2 * d ∧ rest' % 2 = 0
  | 0, i, out, rest, fuel + 1, _, hi, hA, hr, ho, hp => by
    have : i = 60 := by omega
    subst this
    refine ⟨out, rest, ?_, hA, hr, by omega⟩
    unfold runL lanternref01_Div.L14.step lanternref01_Div.L14.k
    rfl
  | n + 1, i, out, rest, fuel + 1, hf, hi, hA, hr, ho, hp => by
    have hpi : 2 ^ i ≤ 2 ^ 60 := Nat.pow_le_pow_right (by omega) (by omega)
    unfold runL
    rw [div_step (by omega) (by omega) hr hd]
    dsimp only
    have hs : 2 ^ (i + 1) = 2 * 2 ^ i := by rw [Nat.pow_succ, Nat.mul_comm]
    refine div_run hd0 hd n (i + 1) _ _ fuel (by omega) (by omega) ?_ ?_ ?_ (.inl (by omega))
    · rw [hs, ← Nat.mul_assoc, Nat.mul_comm A 2, Nat.mul_assoc, hA]
      by_cases h : d ≤ rest
      · rw [if_pos h, if_pos h, Nat.mul_add, Nat.mul_add 2 (2 * out) 1, Nat.add_mul, Nat.mul_assoc 2 (2 * out) d]
        omega
      · rw [if_neg h, if_neg h, Nat.mul_add, Nat.add_zero, Nat.mul_assoc 2 (2 * out) d]
        omega
    · split <;> omega
    · split <;> omega

theorem div_loop {down p q am bm : Bool} {ah al ae bh be : Int} {A d : Nat} (hd0 : 0 < d) (hd : d < 2 ^ 53) (hA : A < 2 * d) :
    ∃ rest : Nat, rest < 2 * d ∧ A * 2 ^ 59 = A * 2 ^ 59 / d * d + rest / 2 ∧ rest / 2 < d ∧ rest % 2 = 0 ∧
      lanternref01_Div.L14 M0 down p q (A : Int) 0 0 ah al ae am bh (d : Int) be bm = (down, p, q, (rest : Int), ((A * 2 ^ 59 / d : Nat) : Int), 60, ah, al, ae, am, bh, (d : Int), be, bm) ∧
      lanternref01_Div.L14.ok M0 down p q (A : Int) 0 0 ah al ae am bh (d : Int) be bm = true := by
  obtain ⟨out, rest, h1, h2, h3, h4⟩ := div_run (down := down) (p := p) (q := q) (am := am) (bm := bm) (ah := ah) (al := al) (ae := ae) (bh := bh) (be := be) (A := A) hd0 hd 60 0 0 A 62 (by omega) rfl (by simp) hA (by simp) (.inr rfl)
  have e0 : ((0 : Nat) : Int) = 0 := rfl
  rw [e0] at h1
  have h5 : A * 2 ^ 59 = out * d + rest / 2 := by
    have e1 : A * 2 ^ 60 = 2 * (A * 2 ^ 59) := by rw [show (60 : Nat) = 59 + 1 from rfl, Nat.pow_succ, ← Nat.mul_assoc, Nat.mul_comm]
    rw [e1, Nat.mul_assoc] at h2
    generalize A * 2 ^ 59 = u at h2 ⊢
    generalize out * d = v at h2 ⊢
    omega
  have h6 : A * 2 ^ 59 / d = out := by
    rw [h5, Nat.mul_comm, Nat.mul_add_div hd0, Nat.div_eq_of_lt (by omega), Nat.add_zero]
  rw [h6]
  refine ⟨rest, h3, h5, by omega, h4, ?_, ?_⟩
  · unfold lanternref01_Div.L14
    rw [h1]; rfl
  · unfold lanternref01_Div.L14.ok
    rw [h1]; rfl


theorem round_div_zero {b : Int} (hb : nm b) (h0 : b ≠ 0) (down : Bool) : round_Div M0 (F 0) (F b) down = (F 0, 0) := by
  have hI := I_pos
  have hC := C_pos
  have key : ∀ t : Int, 0 < t → ¬ QD (Wi 0) (Wi b) (Wi t) := by
    intro t ht h
    unfold QD at h
    rw [Wi_zero, Int.zero_mul] at h
    have h1 := Wi_pos.2 ht
    by_cases h2 : 0 < Wi b
    · rw [if_pos h2] at h
      have := Int.mul_pos h1 h2
      omega
    · rw [if_neg h2] at h
      have h3 : Wi b < 0 := by
        rw [Wi_pos] at h2
        rw [Wi_neg_iff]
        omega
      have := Int.mul_neg_of_pos_of_neg h1 h3
      omega
  have key2 : ∀ t : Int, t < 0 → ¬ QU (Wi 0) (Wi b) (Wi t) := by
    intro t ht h
    unfold QU at h
    rw [Wi_zero, Int.zero_mul] at h
    have h1 := Wi_neg_iff.2 ht
    by_cases h2 : 0 < Wi b
    · rw [if_pos h2] at h
      have := Int.mul_neg_of_neg_of_pos h1 h2
      omega
    · rw [if_neg h2] at h
      have h3 : Wi b < 0 := by
        rw [Wi_pos] at h2
        rw [Wi_neg_iff]
        omega
      have := Int.mul_pos_of_neg_of_neg h1 h3
      omega
  have at0 : QD (Wi 0) (Wi b) (Wi 0) ∧ QU (Wi 0) (Wi b) (Wi 0) := by
    unfold QD QU
    rw [Wi_zero, Int.zero_mul, Int.zero_mul]
    split <;> exact ⟨Int.le_refl _, Int.le_refl _⟩
  cases down
  · obtain ⟨s, h1, _, h2⟩ := divU nm_zero hb h0
    rw [h1, h2.eq (t := 0) ⟨by omega, by omega, .inr at0.2, fun t _ ht => key2 t ht⟩]
  · obtain ⟨s, h1, _, h2⟩ := divD nm_zero hb h0
    rw [h1, h2.eq (t := 0) ⟨by omega, by omega, .inr at0.1, fun t ht _ => key t ht⟩]

theorem div01 {a b : Int} (ha : nm a) (hb : nm b) (h0 : b ≠ 0) (down : Bool) : lanternref01_Div M0 (F a) (F b) down = round_Div M0 (F a) (F b) down ∧ lanternref01_Div.ok M0 (F a) (F b) down = true := by
  have hm := hm64
  have hB := B_val
  have hB2 := B_eq
  have na := refNumber ha.pl
  have nb := refNumber hb.pl
  rw [decide_eq_true ha] at na
  rw [decide_eq_true hb] at nb
  have ea := eq_F ha.pl pl_zero
  have eb := eq_F hb.pl pl_zero
  rw [F_zero] at ea eb
  unfold lanternref01_Div lanternref01_Div.ok
  rw [na, nb, ea, eb, decide_eq_false h0]
  by_cases ha0 : a = 0
  · subst ha0
    rw [decide_eq_true rfl, round_div_zero hb h0]
    exact ⟨rfl, rfl⟩
  · rw [decide_eq_false ha0, partok_F ha.pl, partok_F hb.pl]
    obtain ⟨c, hc⟩ : ∃ c : Nat, c = 1074 := ⟨_, rfl⟩
    obtain ⟨sD, sU⟩ := div_spec (n1 := decide (a < 0)) (n2 := decide (b < 0)) (nm_abs ha) (nm_abs hb) (by omega) hc
    obtain ⟨m1, e1, p1, _, v1, _, l1, _, k1⟩ := part_wd (neg := decide (a < 0)) (nm_abs ha)
    obtain ⟨m2, e2, p2, _, v2, _, l2, _, k2⟩ := part_wd (neg := decide (b < 0)) (nm_abs hb)
    have z1 : m1 ≠ 0 := by
      intro e
      rw [e, Nat.zero_mul] at v1
      have := V_eqz.1 v1
      omega
    have z2 : m2 ≠ 0 := by
      intro e
      rw [e, Nat.zero_mul] at v2
      have := V_eqz.1 v2
      omega
    rw [F_wd a, F_wd b]
    generalize decide (a < 0) = n1 at *
    generalize decide (b < 0) = n2 at *
    have hmm : m64 ≤ m64 * m64 := Nat.le_mul_of_pos_left _ (by omega)
    have hb1 : blen m1 ≤ 53 := blen_le.2 (by omega)
    have hb2 : blen m2 ≤ 53 := blen_le.2 (by omega)
    obtain ⟨i, hi⟩ : ∃ i, i = 53 - blen m1 := ⟨_, rfl⟩
    obtain ⟨j, hj⟩ : ∃ j, j = 53 - blen m2 := ⟨_, rfl⟩
    obtain ⟨A, hA⟩ : ∃ A, A = m1 * 2 ^ i := ⟨_, rfl⟩
    obtain ⟨d, hd⟩ : ∃ d, d = m2 * 2 ^ j := ⟨_, rfl⟩
    have hAlen : blen A = 53 := by rw [hA, blen_mul z1]; omega
    have hdlen : blen d = 53 := by rw [hd, blen_mul z2]; omega
    have hAlt : A < 2 ^ 53 := blen_le.1 (Nat.le_of_eq hAlen)
    have hAge : 2 ^ 52 ≤ A := lt_blen.1 (by omega)
    have hdlt : d < 2 ^ 53 := blen_le.1 (Nat.le_of_eq hdlen)
    have hdge : 2 ^ 52 ≤ d := lt_blen.1 (by omega)
    have w1 : IntKind.i64.wrap (53 - lanternref01_Length M0 (lw m1 ((e1 : Int) - 1074) false)) = (i : Int) := by rw [length_lw (by omega), i_in (by omega)]; omega
    have w2 : IntKind.i64.wrap (53 - lanternref01_Length M0 (lw m2 ((e2 : Int) - 1074) false)) = (j : Int) := by rw [length_lw (by omega), i_in (by omega)]; omega
    obtain ⟨b1, b2⟩ := up_lw (N := m1) (n := i) (by rw [← hA]; omega) (by omega) ((e1 : Int) - 1074) (by omega) false
    obtain ⟨b3, b4⟩ := up_lw (N := m2) (n := j) (by rw [← hd]; omega) (by omega) ((e2 : Int) - 1074) (by omega) false
    rw [← hA, lw_small (show A < m64 by omega)] at b1
    rw [← hd, lw_small (show d < m64 by omega)] at b3
    obtain ⟨rest, r1, r2, r3, r4, r5, r6⟩ := div_loop (down := down) (p := n1) (q := n2) (am := false) (bm := false) (ah := 0) (al := (A : Int)) (ae := (e1 : Int) - 1074 - i) (bh := 0) (be := (e2 : Int) - 1074 - j) (A := A) (d := d) (by omega) hdlt (by omega)
    dsimp only
    rw [p1, p2]
    dsimp only
    rw [w1, w2, b1, b2, b3, b4]
    dsimp only
    rw [r5, r6]
    dsimp only
    obtain ⟨e, he⟩ : ∃ e : Int, e = (e1 : Int) - 1074 - (i + 59 : Nat) - ((e2 : Int) - 1074 - j) := ⟨_, rfl⟩
    have hwe : IntKind.i64.wrap (IntKind.i64.wrap (((e1 : Int) - 1074 - i) - ((e2 : Int) - 1074 - j)) - 59) = e := by
      rw [i_in (n := ((e1 : Int) - 1074 - i) - ((e2 : Int) - 1074 - j)) (by omega), i_in (by omega), he]
      omega
    have hmo : ((rest : Int) != 0) = decide (rest / 2 ≠ 0) := by
      rw [Bool.eq_iff_iff, bne_iff_ne, decide_eq_true_eq]
      omega
    obtain ⟨Q, hQ⟩ : ∃ Q, Q = A * 2 ^ 59 / d := ⟨_, rfl⟩
    have hQlt : Q < 2 ^ 60 := by
      rw [hQ]
      refine Nat.div_lt_of_lt_mul ?_
      have h1 : A * 2 ^ 59 < 2 ^ 53 * 2 ^ 59 := Nat.mul_lt_mul_of_pos_right hAlt (Nat.two_pow_pos _)
      have h2 : 2 ^ 52 * 2 ^ 60 ≤ d * 2 ^ 60 := Nat.mul_le_mul_right _ hdge
      exact Nat.lt_of_lt_of_le h1 (Nat.le_trans (Nat.le_of_eq (by decide)) h2)
    have hQge : 2 ^ 58 ≤ Q := by
      rw [hQ]
      refine (Nat.le_div_iff_mul_le (by omega)).2 ?_
      have h1 : 2 ^ 58 * d ≤ 2 ^ 58 * 2 ^ 53 := Nat.mul_le_mul_left _ (Nat.le_of_lt hdlt)
      have h2 : 2 ^ 52 * 2 ^ 59 ≤ A * 2 ^ 59 := Nat.mul_le_mul_right _ hAge
      exact Nat.le_trans h1 (Nat.le_trans (Nat.le_of_eq (by decide)) h2)
    have hbQ : 53 < blen Q := lt_blen.2 (by omega)
    rw [← hQ] at r2
    rw [hwe, hmo, ← hQ]
    have hs : (⟨0, (Q : Int), e, decide (rest / 2 ≠ 0)⟩ : LWord) = lw Q e (decide (rest / 2 ≠ 0)) := (lw_small (by omega) _ _).symm
    rw [hs]
    obtain ⟨t1, t2⟩ := to_lw (neg := !(n1 == n2)) (more := decide (rest / 2 ≠ 0)) (down := down) (N := Q) (by omega) (e := e) (by omega) (fun _ => .inl hbQ)
    obtain ⟨cD, cU⟩ := div_core (neg := !(n1 == n2)) (r1 := a.natAbs) (r2 := b.natAbs) (by omega) hc v1 v2 (N := A * 2 ^ 59) (k := i + 59) (by rw [hA, Nat.pow_add, Nat.mul_assoc]) hd (by omega) hQ r2 r3 (by omega) (fun _ => hbQ) he (by omega)
    rw [t1, t2]
    refine ⟨?_, rfl⟩
    cases down
    · obtain ⟨s, x1, _, x3⟩ := cU
      obtain ⟨t, y1, _, y3⟩ := sU
      rw [x1, y1, x3.eq y3]
      rfl
    · obtain ⟨s, x1, _, x3⟩ := cD
      obtain ⟨t, y1, _, y3⟩ := sD
      rw [x1, y1, x3.eq y3]
      rfl

end Go.Lan

/- The document's roots are the program's. -/
namespace Go.Lan

attribute [local irreducible] B

theorem sq_step {down more : Bool} {e : Int} {N r p : Nat} (hN : N < 2 ^ 116) (hp : p < 58) (h : RInv N r (p + 1)) :
    lanternref01_Sqrt.L13.step M0 (down, (r : Int), (p : Int), ((N / m64 : Nat) : Int), ((N % m64 : Nat) : Int), e, more) =
      some (true, (down, ((if (r + 2 ^ p) * (r + 2 ^ p) ≤ N then r + 2 ^ p else r : Nat) : Int), (p : Int) - 1, ((N / m64 : Nat) : Int), ((N % m64 : Nat) : Int), e, more)) := by
  have hm := hm64
  have hr := root_bound hN h
  have hp2 : 2 ^ p ≤ 2 ^ 57 := Nat.pow_le_pow_right (by omega) (by omega)
  have x3 : shlV .u64 1 (p : Int) = ((2 ^ p : Nat) : Int) := by
    have := u_shl 1 p
    rw [Nat.one_mul, Nat.mod_eq_of_lt (by omega)] at this
    exact this
  have x4 : M0.or .u64 (r : Int) ((2 ^ p : Nat) : Int) = ((r + 2 ^ p : Nat) : Int) := by
    rw [u_or (by omega) (by omega)]
    congr 1
    have h1 := Nat.div_add_mod r (2 ^ (p + 1))
    rw [h.mul, Nat.add_zero, Nat.mul_comm] at h1
    have h2 := or_add (a := r / 2 ^ (p + 1)) (b := 2 ^ p) (k := p + 1) (Nat.pow_lt_pow_right (by omega) (by omega))
    rw [h1] at h2
    exact h2
  obtain ⟨t, ht⟩ : ∃ t, t = r + 2 ^ p := ⟨_, rfl⟩
  have x5 := times_nat (x := t) (y := t) (by omega) (by omega)
  have x6 : IntKind.i64.wrap ((p : Int) - 1) = (p : Int) - 1 := i_in (by omega)
  have x7 : lanternref01_below M0 (⟨((N / m64 : Nat) : Int), ((N % m64 : Nat) : Int), 0, false⟩ : LWord) (⟨((t * t / m64 : Nat) : Int), ((t * t % m64 : Nat) : Int), 0, false⟩ : LWord) = decide (N < t * t) := below_lw 0 0 false false
  unfold lanternref01_Sqrt.L13.step lanternref01_Sqrt.L13.k
  dsimp only
  rw [decide_eq_true (show (p : Int) ≥ 0 by omega), cond_true, cond_true, x3, x4, ← ht, x5, x6]
  dsimp only
  rw [x7]
  by_cases c : t * t ≤ N
  · rw [decide_eq_false (by omega), if_pos c]
    rfl
  · rw [decide_eq_true (by omega), if_neg c]
    rfl

theorem sq_run {down more : Bool} {e : Int} {N : Nat} (hN : N < 2 ^ 116) : ∀ (p n r : Nat), p < n → p ≤ 58 → RInv N r p →
    ∃ q : Nat, q * q ≤ N ∧ N < (q + 1) * (q + 1) ∧ runL (lanternref01_Sqrt.L13.step M0) n (down, (r : Int), (p : Int) - 1, ((N / m64 : Nat) : Int), ((N % m64 : Nat) : Int), e, more) = some (down, (q : Int), -1, ((N / m64 : Nat) : Int), ((N % m64 : Nat) : Int), e, more)
  | 0, n + 1, r, _, _, h => by
    refine ⟨r, h.le, ?_, ?_⟩
    · have := h.lt
      rw [Nat.pow_zero] at this
      exact this
    · unfold runL lanternref01_Sqrt.L13.step lanternref01_Sqrt.L13.k
      rfl
  | p + 1, n + 1, r, hn, hp, h => by
    obtain ⟨q, h1, h2, h3⟩ := sq_run (down := down) (more := more) (e := e) hN p n _ (by omega) (by omega) (root_next h)
    refine ⟨q, h1, h2, ?_⟩
    unfold runL
    rw [show (((p + 1 : Nat) : Int)) - 1 = (p : Int) by omega, sq_step hN (by omega) h]
    exact h3

theorem sq_unique {N q s : Nat} (h1 : q * q ≤ N) (h2 : N < (q + 1) * (q + 1)) (h3 : s * s ≤ N) (h4 : N < (s + 1) * (s + 1)) : q = s := by
  rcases Nat.lt_trichotomy q s with h | h | h
  · have : (q + 1) * (q + 1) ≤ s * s := Nat.mul_le_mul h h
    omega
  · exact h
  · have : (s + 1) * (s + 1) ≤ q * q := Nat.mul_le_mul h h
    omega

def tailS (M : Prims) (down : Bool) (w : LWord) : Nat × Int :=
  let x20 := lanternref01_Sqrt.L13 M down 0 57 w.hi w.lo w.e w.more
  let x21 := lanternref01_Times M x20.2.1 x20.2.1
  let x22 := IntKind.i64.wrap (Int.tdiv x20.2.2.2.2.2.1 2)
  cond ((x21.1 : Int) != x20.2.2.2.1)
    ((lanternref01_To M (⟨0, x20.2.1, x22, true⟩ : LWord) false x20.1), 0)
    ((lanternref01_To M (⟨0, x20.2.1, x22, ((x21.2 : Int) != x20.2.2.2.2.1)⟩ : LWord) false x20.1), 0)
def tailSok (M : Prims) (down : Bool) (w : LWord) : Bool :=
  let x20 := lanternref01_Sqrt.L13 M down 0 57 w.hi w.lo w.e w.more
  cond (lanternref01_Sqrt.L13.ok M down 0 57 w.hi w.lo w.e w.more)
    (let x21 := lanternref01_Times M x20.2.1 x20.2.1
     let x22 := IntKind.i64.wrap (Int.tdiv x20.2.2.2.2.2.1 2)
     cond ((x21.1 : Int) != x20.2.2.2.1)
      (cond (lanternref01_To.ok M (⟨0, x20.2.1, x22, true⟩ : LWord) false x20.1) true false)
      (cond (lanternref01_To.ok M (⟨0, x20.2.1, x22, ((x21.2 : Int) != x20.2.2.2.2.1)⟩ : LWord) false x20.1) true false))
    false
theorem sqrt01_eq (M : Prims) (x : Nat) (down : Bool) : lanternref01_Sqrt M x down =
    cond (!(lanternref01_Number M x)) (0, 10) (cond (M.lt x 0) (0, 12) (cond (M.eq x 0) (0, 0)
      (let x5 := lanternref01_Part M x
       let x8 := lanternref01_Up M x5.1 (IntKind.i64.wrap (115 - (lanternref01_Length M x5.1)))
       cond (((Int.tmod x8.e 2) : Int) != 0) (tailS M down (lanternref01_Up M x8 1)) (tailS M down x8)))) := rfl
theorem sqrt01ok_eq (M : Prims) (x : Nat) (down : Bool) : lanternref01_Sqrt.ok M x down =
    cond (!(lanternref01_Number M x)) true (cond (M.lt x 0) true (cond (M.eq x 0) true
      (let x5 := lanternref01_Part M x
       cond (lanternref01_Part.ok M x)
         (let x7 := IntKind.i64.wrap (115 - (lanternref01_Length M x5.1))
          let x8 := lanternref01_Up M x5.1 x7
          cond (lanternref01_Up.ok M x5.1 x7)
            (cond (((Int.tmod x8.e 2) : Int) != 0)
              (cond (lanternref01_Up.ok M x8 1) (tailSok M down (lanternref01_Up M x8 1)) false)
              (tailSok M down x8)) false) false))) := rfl

def tailR (M : Prims) (down : Bool) (x : LExact) : Nat × Int :=
  let x12 := round_root M x.hi x.lo
  ((round_exact_to M (⟨false, 0, x12.1, (IntKind.i64.wrap (Int.tdiv x.e 2)), x12.2⟩ : LExact) down), 0)
theorem sqrtR_eq (M : Prims) (a : Nat) (down : Bool) : round_Sqrt M a down =
    cond (!(round_Number M a)) (0, 10) (cond (M.lt a 0) (0, 12) (cond (M.eq a 0) (0, 0)
      (let x5 := round_split M a
       let x8 := round_exact_left M x5 (IntKind.i64.wrap (115 - (round_exact_length M x5)))
       cond (((Int.tmod x8.e 2) : Int) != 0) (tailR M down (round_exact_left M x8 1)) (tailR M down x8)))) := rfl

theorem tailS_eq {n : Bool} {N : Nat} (hN : N < 2 ^ 116) (hge : 2 ^ 114 ≤ N) {e : Int} (he : -5000 < e ∧ e < 5000) (down : Bool) :
    tailS M0 down (lw N e false) = tailR M0 down (ex n N e false) ∧ tailSok M0 down (lw N e false) = true := by
  have hm := hm64
  have hmm : m64 * m64 = 2 ^ 128 := by decide
  obtain ⟨q, q1, q2, q3, _⟩ := root_eq hN
  have hinit : RInv N 0 58 := ⟨Nat.zero_mod _, by omega, by
    rw [Nat.zero_add]
    have : 2 ^ 58 * 2 ^ 58 = 2 ^ 116 := by decide
    rw [this]; exact hN⟩
  obtain ⟨s, s1, s2, s3⟩ := sq_run (down := down) (more := false) (e := e) hN 58 60 0 (by omega) (by omega) hinit
  have hsq := sq_unique s1 s2 q1 q2
  subst hsq
  have hs58 : s < 2 ^ 58 := by
    rcases Nat.lt_or_ge s (2 ^ 58) with h | h
    · exact h
    · have : 2 ^ 58 * 2 ^ 58 ≤ s * s := Nat.mul_le_mul h h
      omega
  have hs57 : 2 ^ 57 ≤ s := by
    rcases Nat.lt_or_ge s (2 ^ 57) with h | h
    · have : (s + 1) * (s + 1) ≤ 2 ^ 57 * 2 ^ 57 := Nat.mul_le_mul h h
      omega
    · exact h
  have e57 : ((58 : Nat) : Int) - 1 = 57 := rfl
  have e0 : ((0 : Nat) : Int) = 0 := rfl
  rw [e57, e0] at s3
  have L : lanternref01_Sqrt.L13 M0 down 0 57 ((N / m64 : Nat) : Int) ((N % m64 : Nat) : Int) e false = (down, (s : Int), -1, ((N / m64 : Nat) : Int), ((N % m64 : Nat) : Int), e, false) := by
    unfold lanternref01_Sqrt.L13
    rw [s3]; rfl
  have Lok : lanternref01_Sqrt.L13.ok M0 down 0 57 ((N / m64 : Nat) : Int) ((N % m64 : Nat) : Int) e false = true := by
    unfold lanternref01_Sqrt.L13.ok
    rw [s3]; rfl
  have hrange : -5000 < IntKind.i64.wrap (Int.tdiv e 2) ∧ IntKind.i64.wrap (Int.tdiv e 2) < 5000 := by
    have h1 : -5000 < Int.tdiv e 2 ∧ Int.tdiv e 2 < 5000 := by
      rcases Int.lt_or_le e 0 with h | h
      · obtain ⟨k, hk⟩ : ∃ k : Nat, e = -(k : Int) := ⟨e.natAbs, by omega⟩
        rw [hk, Int.neg_tdiv]
        have : Int.tdiv (k : Int) 2 = ((k / 2 : Nat) : Int) := by
          rw [Int.tdiv_eq_ediv_of_nonneg (by omega)]; omega
        rw [this]
        omega
      · rw [Int.tdiv_eq_ediv_of_nonneg h]
        omega
    rw [i_in (by omega)]
    exact h1
  unfold tailS tailSok tailR
  rw [show (ex n N e false).hi = ((N / m64 : Nat) : Int) from rfl, show (ex n N e false).lo = ((N % m64 : Nat) : Int) from rfl, show (ex n N e false).e = e from rfl]
  rw [show (lw N e false).hi = ((N / m64 : Nat) : Int) from rfl, show (lw N e false).lo = ((N % m64 : Nat) : Int) from rfl, show (lw N e false).e = e from rfl, show (lw N e false).more = false from rfl, L, Lok, q3]
  dsimp only
  rw [times_nat (by omega) (by omega)]
  dsimp only
  generalize IntKind.i64.wrap (Int.tdiv e 2) = e' at *
  have d1 := Nat.div_add_mod (s * s) m64
  have d2 := Nat.div_add_mod N m64
  have hlw : ∀ mo : Bool, (⟨0, (s : Int), e', mo⟩ : LWord) = lw s e' mo := fun mo => (lw_small (by omega) _ _).symm
  have hex : ∀ mo : Bool, (⟨false, 0, (s : Int), e', mo⟩ : LExact) = ex false s e' mo := fun mo => (ex_small _ (by omega) _ _).symm
  have go : ∀ mo : Bool, lanternref01_To M0 (lw s e' mo) false down = round_exact_to M0 (ex false s e' mo) down ∧ lanternref01_To.ok M0 (lw s e' mo) false down = true := fun mo =>
    to_lw (neg := false) (more := mo) (down := down) (N := s) (by omega) hrange fun _ => .inl (lt_blen.2 (by omega))
  rw [hlw, hlw, hex, (go true).1, (go true).2, (go _).1, (go _).2]
  by_cases c1 : s * s / m64 = N / m64
  · rw [show (((s * s / m64 : Nat) : Int) != ((N / m64 : Nat) : Int)) = false by rw [bne_eq_false_iff_eq]; omega, cond_false, cond_false]
    have : (((s * s % m64 : Nat) : Int) != ((N % m64 : Nat) : Int)) = decide (s * s ≠ N) := by
      rw [Bool.eq_iff_iff, bne_iff_ne, decide_eq_true_eq]
      rw [c1] at d1
      omega
    rw [this]
    exact ⟨rfl, rfl⟩
  · have hne : s * s ≠ N := by
      intro h
      rw [h] at c1
      exact c1 rfl
    rw [show (((s * s / m64 : Nat) : Int) != ((N / m64 : Nat) : Int)) = true by rw [bne_iff_ne]; omega, cond_true, cond_true, decide_eq_true hne]
    exact ⟨rfl, rfl⟩

theorem sqrt01 {a : Int} (ha : nm a) (h0 : 0 ≤ a) (down : Bool) : lanternref01_Sqrt M0 (F a) down = round_Sqrt M0 (F a) down ∧ lanternref01_Sqrt.ok M0 (F a) down = true := by
  have hm := hm64
  have hB := B_val
  have hB2 := B_eq
  have na := refNumber ha.pl
  rw [decide_eq_true ha] at na
  have nb := number_F ha.pl
  rw [decide_eq_true ha] at nb
  have ea := eq_F ha.pl pl_zero
  have la := lt_F ha.pl pl_zero
  rw [F_zero] at ea la
  rw [decide_eq_false (show ¬ a < 0 by omega)] at la
  rw [sqrt01_eq, sqrt01ok_eq, na, ea, la, sqrtR_eq, nb, ea, la]
  by_cases ha0 : a = 0
  · rw [decide_eq_true ha0]
    exact ⟨rfl, rfl⟩
  · have R : ∀ {α : Type} (x y z w : α), cond (!true) x (cond false y (cond false z w)) = w := fun _ _ _ _ => rfl
    rw [decide_eq_false ha0, partok_F ha.pl, R, R, R]
    obtain ⟨m, e, p, s, v, _, l, _, k⟩ := part_wd (neg := decide (a < 0)) (nm_abs ha)
    have z1 : m ≠ 0 := by
      intro e
      rw [e, Nat.zero_mul] at v
      have := V_eqz.1 v
      omega
    rw [F_wd a]
    generalize decide (a < 0) = n1 at *
    have hmm : m64 * m64 = 2 ^ 128 := by decide
    have hb1 : blen m ≤ 53 := blen_le.2 (by omega)
    obtain ⟨i, hi⟩ : ∃ i, i = 115 - blen m := ⟨_, rfl⟩
    have hl : blen (m * 2 ^ i) = 115 := by rw [blen_mul z1]; omega
    have hlt : m * 2 ^ i < 2 ^ 115 := blen_le.1 (Nat.le_of_eq hl)
    have hge : 2 ^ 114 ≤ m * 2 ^ i := lt_blen.1 (by omega)
    have w1 : IntKind.i64.wrap (115 - lanternref01_Length M0 (lw m ((e : Int) - 1074) false)) = (i : Int) := by rw [length_lw (by omega), i_in (by omega)]; omega
    have w2 : IntKind.i64.wrap (115 - round_exact_length M0 (ex n1 m ((e : Int) - 1074) false)) = (i : Int) := by rw [(length_ex n1 (by omega) _ _).1, i_in (by omega)]; omega
    obtain ⟨b1, b2⟩ := up_lw (N := m) (n := i) (by omega) (by omega) ((e : Int) - 1074) (by omega) false
    obtain ⟨b3, _⟩ := left_ex n1 (N := m) (n := i) (by omega) (by omega) ((e : Int) - 1074) (by omega) false
    dsimp only
    rw [p, s]
    dsimp only
    rw [w1, w2, b1, b2, b3, show (lw (m * 2 ^ i) ((e : Int) - 1074 - i) false).e = (e : Int) - 1074 - i from rfl, show (ex n1 (m * 2 ^ i) ((e : Int) - 1074 - i) false).e = (e : Int) - 1074 - i from rfl]
    rw [cond_true, cond_true]
    cases ((Int.tmod ((e : Int) - 1074 - i) 2 : Int) != 0)
    · rw [cond_false, cond_false, cond_false]
      obtain ⟨t1, t2⟩ := tailS_eq (n := n1) (N := m * 2 ^ i) (by omega) hge (e := (e : Int) - 1074 - i) (by omega) down
      rw [t1, t2]
      exact ⟨rfl, rfl⟩
    · rw [cond_true, cond_true, cond_true]
      obtain ⟨c1, c2⟩ := up_lw (N := m * 2 ^ i) (n := 1) (by omega) (by omega) ((e : Int) - 1074 - i) (by omega) false
      obtain ⟨c3, _⟩ := left_ex n1 (N := m * 2 ^ i) (n := 1) (by omega) (by omega) ((e : Int) - 1074 - i) (by omega) false
      have e1 : ((1 : Nat) : Int) = 1 := rfl
      rw [e1] at c1 c2 c3
      rw [c1, c2, c3]
      obtain ⟨t1, t2⟩ := tailS_eq (n := n1) (N := m * 2 ^ i * 2 ^ 1) (by omega) (by omega) (e := (e : Int) - 1074 - i - 1) (by omega) down
      rw [t1, t2]
      exact ⟨rfl, rfl⟩

end Go.Lan

/- The document's spans are the program's. -/
namespace Go.Lan

attribute [local irreducible] B

theorem neg_F' {s : Int} (h : nm s ∨ s = (I : Int)) (h0 : 0 < s) : M0.neg (F s) = F (-s) := by
  have hp : s.natAbs ≤ I := by
    have := I_eq
    rcases h with h | h
    · exact Nat.le_of_lt (nm_abs h)
    · omega
  rw [F_wd, decide_eq_false (by omega), neg_wd hp, F_wd, decide_eq_true (by omega), Int.natAbs_neg]
  rfl
theorem neg_inf : M0.neg (lanternref01_Inf M0) = F (-(I : Int)) := by
  rw [refInf, neg_F' (.inr rfl) I_pos]
theorem refAll : lanternref02_All M0 = span_All M0 := by
  unfold lanternref02_All span_All
  rw [neg_inf, refInf, inf_lo, inf_hi]

/-! ### Sums -/
theorem add_both {l m : Int} (hl : pl l) (hm : pl m) (down : Bool) : lanternref01_Add M0 (F l) (F m) down = round_Add M0 (F l) (F m) down ∧ lanternref01_Add.ok M0 (F l) (F m) down = true ∧ ((round_Add M0 (F l) (F m) down).2 = 0 ∨ (round_Add M0 (F l) (F m) down).2 = 10) := by
  by_cases h : nm l ∧ nm m
  · obtain ⟨h1, h2⟩ := add01 h.1 h.2 down
    refine ⟨h1, h2, .inl ?_⟩
    cases down
    · obtain ⟨s, e, _⟩ := addU h.1 h.2
      rw [e]
    · obtain ⟨s, e, _⟩ := addD h.1 h.2
      rw [e]
  · obtain ⟨e, _⟩ := add_inf hl hm h down
    have n1 := refNumber hl
    have n2 := refNumber hm
    rw [add01_eq, add01ok_eq, e, n1, n2]
    by_cases h1 : nm l
    · have h2 : ¬ nm m := fun h2 => h ⟨h1, h2⟩
      rw [decide_eq_true h1, decide_eq_false h2]
      exact ⟨rfl, rfl, .inr rfl⟩
    · rw [decide_eq_false h1]
      exact ⟨rfl, rfl, .inr rfl⟩

theorem radd {a b : LSpan} (ha : SVs a) (hb : SVs b) : lanternref02_Add M0 a b = span_Add M0 a b ∧ lanternref02_Add.ok M0 a b = true := by
  obtain ⟨l, h, sa⟩ := ha
  obtain ⟨m, k, sb⟩ := hb
  obtain ⟨a1, a2, a3⟩ := add_both sa.pl sb.pl true
  obtain ⟨b1, b2, b3⟩ := add_both sa.ph sb.ph false
  unfold lanternref02_Add span_Add lanternref02_Add.ok
  rw [sa.lo, sa.hi, sb.lo, sb.hi, a1, a2, b1, b2, neg_inf, refInf]
  dsimp only
  generalize round_Add M0 (F l) (F m) true = x at *
  generalize round_Add M0 (F h) (F k) false = y at *
  obtain ⟨x1, x2⟩ := x
  obtain ⟨y1, y2⟩ := y
  dsimp only at a3 b3 ⊢
  rcases a3 with rfl | rfl <;> rcases b3 with rfl | rfl
  · exact ⟨rfl, rfl⟩
  · rw [high_err]; exact ⟨rfl, rfl⟩
  · rw [low_err]; exact ⟨rfl, rfl⟩
  · rw [low_err, high_err]; exact ⟨rfl, rfl⟩

theorem rneg (a : LSpan) : lanternref02_Neg M0 a = span_Neg M0 a := rfl
theorem rsub {a b : LSpan} (ha : SVs a) (hb : SVs b) : lanternref02_Sub M0 a b = span_Sub M0 a b ∧ lanternref02_Sub.ok M0 a b = true := by
  obtain ⟨h1, h2⟩ := radd ha (svs_neg hb)
  unfold lanternref02_Sub span_Sub lanternref02_Sub.ok
  rw [rneg, h1, h2]
  exact ⟨rfl, rfl⟩

/-! ### Products and quotients -/
theorem rnothing {a : LSpan} : lanternref02_nothing M0 a = (M0.eq a.lo 0 && (M0.eq a.hi 0 && true)) := by
  unfold lanternref02_nothing
  cases M0.eq a.lo 0 <;> cases M0.eq a.hi 0 <;> rfl
theorem rwide {a : LSpan} (ha : SVs a) : lanternref02_Wide M0 a = span_Wide M0 a := by
  obtain ⟨l, h, sa⟩ := ha
  rw [refWide sa, sa.wide.1]

theorem lt_pick {s t : Int} (h : pl s) (k : pl t) : cond (M0.lt (F s) (F t)) (F s) (F t) = F (min t s) := by
  rw [lt_F h k]
  by_cases c : s < t
  · rw [decide_eq_true c, cond_true, Int.min_eq_right (by omega)]
  · rw [decide_eq_false c, cond_false, Int.min_eq_left (by omega)]
theorem gt_pick {s t : Int} (h : pl s) (k : pl t) : cond (M0.gt (F s) (F t)) (F s) (F t) = F (max t s) := by
  rw [gt_F h k]
  by_cases c : t < s
  · rw [decide_eq_true c, cond_true, Int.max_eq_right (by omega)]
  · rw [decide_eq_false c, cond_false, Int.max_eq_left (by omega)]
theorem pl_min {s t : Int} (h : pl s) (k : pl t) : pl (min s t) := ⟨by have := h.1; have := k.1; omega, by have := h.2; omega⟩
theorem pl_max {s t : Int} (h : pl s) (k : pl t) : pl (max s t) := ⟨by have := h.1; omega, by have := h.2; have := k.2; omega⟩
theorem pl_I : pl (I : Int) := ⟨by omega, Int.le_refl _⟩
theorem pl_mI : pl (-(I : Int)) := ⟨Int.le_refl _, by omega⟩

/-- The least of four, in either text. -/
theorem four_lo {a b c d : Int} (ha : pl a) (hb : pl b) (hc : pl c) (hd : pl d) :
    (let x1 := cond (M0.lt (F a) (lanternref01_Inf M0)) (F a) (lanternref01_Inf M0)
     let x2 := cond (M0.lt (F b) x1) (F b) x1
     let x3 := cond (M0.lt (F c) x2) (F c) x2
     cond (M0.lt (F d) x3) (F d) x3) = M0.min (M0.min (M0.min (M0.min (math_Inf M0 1) (F a)) (F b)) (F c)) (F d) := by
  dsimp only
  rw [refInf, inf_hi, lt_pick ha pl_I, lt_pick hb (pl_min pl_I ha), lt_pick hc (pl_min (pl_min pl_I ha) hb), lt_pick hd (pl_min (pl_min (pl_min pl_I ha) hb) hc),
    min_F pl_I ha, min_F (pl_min pl_I ha) hb, min_F (pl_min (pl_min pl_I ha) hb) hc, min_F (pl_min (pl_min (pl_min pl_I ha) hb) hc) hd]
theorem four_hi {a b c d : Int} (ha : pl a) (hb : pl b) (hc : pl c) (hd : pl d) :
    (let x1 := cond (M0.gt (F a) (M0.neg (lanternref01_Inf M0))) (F a) (M0.neg (lanternref01_Inf M0))
     let x2 := cond (M0.gt (F b) x1) (F b) x1
     let x3 := cond (M0.gt (F c) x2) (F c) x2
     cond (M0.gt (F d) x3) (F d) x3) = M0.max (M0.max (M0.max (M0.max (math_Inf M0 (-1)) (F a)) (F b)) (F c)) (F d) := by
  dsimp only
  rw [neg_inf, inf_lo, gt_pick ha pl_mI, gt_pick hb (pl_max pl_mI ha), gt_pick hc (pl_max (pl_max pl_mI ha) hb), gt_pick hd (pl_max (pl_max (pl_max pl_mI ha) hb) hc),
    max_F pl_mI ha, max_F (pl_max pl_mI ha) hb, max_F (pl_max (pl_max pl_mI ha) hb) hc, max_F (pl_max (pl_max (pl_max pl_mI ha) hb) hc) hd]

def fourR (f : Nat → Nat → Bool → Nat × Int) (a b : LSpan) : LSpan :=
  ⟨(let x1 := cond (M0.lt (f a.lo b.lo true).1 (lanternref01_Inf M0)) (f a.lo b.lo true).1 (lanternref01_Inf M0)
    let x2 := cond (M0.lt (f a.lo b.hi true).1 x1) (f a.lo b.hi true).1 x1
    let x3 := cond (M0.lt (f a.hi b.lo true).1 x2) (f a.hi b.lo true).1 x2
    cond (M0.lt (f a.hi b.hi true).1 x3) (f a.hi b.hi true).1 x3),
   (let x1 := cond (M0.gt (f a.lo b.lo false).1 (M0.neg (lanternref01_Inf M0))) (f a.lo b.lo false).1 (M0.neg (lanternref01_Inf M0))
    let x2 := cond (M0.gt (f a.lo b.hi false).1 x1) (f a.lo b.hi false).1 x1
    let x3 := cond (M0.gt (f a.hi b.lo false).1 x2) (f a.hi b.lo false).1 x2
    cond (M0.gt (f a.hi b.hi false).1 x3) (f a.hi b.hi false).1 x3)⟩
def fourS (f : Nat → Nat → Bool → Nat × Int) (a b : LSpan) : LSpan :=
  ⟨(M0.min (M0.min (M0.min (M0.min (math_Inf M0 1) (f a.lo b.lo true).1) (f a.lo b.hi true).1) (f a.hi b.lo true).1) (f a.hi b.hi true).1),
   (M0.max (M0.max (M0.max (M0.max (math_Inf M0 (-1)) (f a.lo b.lo false).1) (f a.lo b.hi false).1) (f a.hi b.lo false).1) (f a.hi b.hi false).1)⟩
def fourOk (f : Nat → Nat → Bool → Bool) (a b : LSpan) : Bool :=
  cond (f a.lo b.lo true) (cond (f a.lo b.lo false) (cond (f a.lo b.hi true) (cond (f a.lo b.hi false) (cond (f a.hi b.lo true) (cond (f a.hi b.lo false) (cond (f a.hi b.hi true) (cond (f a.hi b.hi false) true false) false) false) false) false) false) false) false

theorem four_eq {f g : Nat → Nat → Bool → Nat × Int} {ok : Nat → Nat → Bool → Bool} {a b : LSpan} {l h m k : Int} (sa : SV a l h) (sb : SV b m k)
    (H : ∀ x y down, (x = l ∨ x = h) → (y = m ∨ y = k) → f (F x) (F y) down = g (F x) (F y) down ∧ ok (F x) (F y) down = true ∧ ∃ s, pl s ∧ g (F x) (F y) down = (F s, 0)) :
    fourR f a b = fourS g a b ∧ fourOk ok a b = true := by
  unfold fourR fourS fourOk
  rw [sa.lo, sa.hi, sb.lo, sb.hi]
  have hh : ∀ x y : Int, ∀ down, (x = l ∨ x = h) → (y = m ∨ y = k) → ∃ s, pl s ∧ f (F x) (F y) down = (F s, 0) ∧ g (F x) (F y) down = (F s, 0) ∧ ok (F x) (F y) down = true := by
    intro x y down hx hy
    obtain ⟨h1, h2, s, h3, h4⟩ := H x y down hx hy
    exact ⟨s, h3, h1.trans h4, h4, h2⟩
  obtain ⟨s1, p1, f1, g1, o1⟩ := hh l m true (.inl rfl) (.inl rfl)
  obtain ⟨s2, p2, f2, g2, o2⟩ := hh l k true (.inl rfl) (.inr rfl)
  obtain ⟨s3, p3, f3, g3, o3⟩ := hh h m true (.inr rfl) (.inl rfl)
  obtain ⟨s4, p4, f4, g4, o4⟩ := hh h k true (.inr rfl) (.inr rfl)
  obtain ⟨t1, q1, v1, w1, r1⟩ := hh l m false (.inl rfl) (.inl rfl)
  obtain ⟨t2, q2, v2, w2, r2⟩ := hh l k false (.inl rfl) (.inr rfl)
  obtain ⟨t3, q3, v3, w3, r3⟩ := hh h m false (.inr rfl) (.inl rfl)
  obtain ⟨t4, q4, v4, w4, r4⟩ := hh h k false (.inr rfl) (.inr rfl)
  rw [f1, f2, f3, f4, g1, g2, g3, g4, v1, v2, v3, v4, w1, w2, w3, w4, o1, o2, o3, o4, r1, r2, r3, r4]
  have e1 := four_lo p1 p2 p3 p4
  have e2 := four_hi q1 q2 q3 q4
  dsimp only at e1 e2 ⊢
  rw [e1, e2]
  exact ⟨rfl, rfl⟩

theorem rmul {a b : LSpan} (ha : SVs a) (hb : SVs b) : lanternref02_Mul M0 a b = span_Mul M0 a b ∧ lanternref02_Mul.ok M0 a b = true := by
  have e1 : lanternref02_Mul M0 a b = cond (lanternref02_nothing M0 a) ⟨0, 0⟩ (cond (lanternref02_nothing M0 b) ⟨0, 0⟩ (cond (lanternref02_Wide M0 a) (lanternref02_All M0) (cond (lanternref02_Wide M0 b) (lanternref02_All M0) (fourR (lanternref01_Mul M0) a b)))) := rfl
  have e2 : span_Mul M0 a b = cond (M0.eq a.lo 0 && (M0.eq a.hi 0 && true)) ⟨0, 0⟩ (cond (M0.eq b.lo 0 && (M0.eq b.hi 0 && true)) ⟨0, 0⟩ (cond (span_Wide M0 a) (span_All M0) (cond (span_Wide M0 b) (span_All M0) (fourS (round_Mul M0) a b)))) := rfl
  have e3 : lanternref02_Mul.ok M0 a b = cond (lanternref02_nothing M0 a) true (cond (lanternref02_nothing M0 b) true (cond (lanternref02_Wide M0 a) true (cond (lanternref02_Wide M0 b) true (fourOk (lanternref01_Mul.ok M0) a b)))) := rfl
  rw [e1, e2, e3, rnothing, rnothing, rwide ha, rwide hb, refAll]
  cases (M0.eq a.lo 0 && (M0.eq a.hi 0 && true))
  · cases (M0.eq b.lo 0 && (M0.eq b.hi 0 && true))
    · obtain ⟨l, h, sa⟩ := ha
      obtain ⟨m, k, sb⟩ := hb
      rw [sa.wide.1, sb.wide.1]
      by_cases n1 : nm l ∧ nm h
      · by_cases n2 : nm m ∧ nm k
        · obtain ⟨q1, q2⟩ := four_eq (f := lanternref01_Mul M0) (g := round_Mul M0) (ok := lanternref01_Mul.ok M0) sa sb (fun x y down hx hy => by
            have nx : nm x := by rcases hx with rfl | rfl <;> simp [n1]
            have ny : nm y := by rcases hy with rfl | rfl <;> simp [n2]
            obtain ⟨r1, r2⟩ := mul01 nx ny down
            refine ⟨r1, r2, ?_⟩
            cases down
            · obtain ⟨s, r3, _, r4⟩ := mulU nx ny
              exact ⟨s, r4.pl, r3⟩
            · obtain ⟨s, r3, _, r4⟩ := mulD nx ny
              exact ⟨s, r4.pl, r3⟩)
          rw [decide_eq_false (by simp [n1]), decide_eq_false (by simp [n2]), q1, q2]
          exact ⟨rfl, rfl⟩
        · rw [decide_eq_false (by simp [n1]), decide_eq_true n2]
          exact ⟨rfl, rfl⟩
      · rw [decide_eq_true n1]
        exact ⟨rfl, rfl⟩
    · exact ⟨rfl, rfl⟩
  · exact ⟨rfl, rfl⟩

theorem rdiv {a b : LSpan} (ha : SVs a) (hb : SVs b) : lanternref02_Div M0 a b = span_Div M0 a b ∧ lanternref02_Div.ok M0 a b = true := by
  have e1 : lanternref02_Div M0 a b = cond (M0.le b.lo 0) (cond (M0.ge b.hi 0) (lanternref02_All M0) (cond (lanternref02_Wide M0 a) (lanternref02_All M0) (cond (lanternref02_Wide M0 b) (lanternref02_All M0) (fourR (lanternref01_Div M0) a b))))
    (cond (lanternref02_Wide M0 a) (lanternref02_All M0) (cond (lanternref02_Wide M0 b) (lanternref02_All M0) (fourR (lanternref01_Div M0) a b))) := rfl
  have e2 : span_Div M0 a b = cond (M0.le b.lo 0) (cond (M0.ge b.hi 0) (span_All M0) (cond (span_Wide M0 a) (span_All M0) (cond (span_Wide M0 b) (span_All M0) (fourS (round_Div M0) a b))))
    (cond (span_Wide M0 a) (span_All M0) (cond (span_Wide M0 b) (span_All M0) (fourS (round_Div M0) a b))) := rfl
  have e3 : lanternref02_Div.ok M0 a b = cond (M0.le b.lo 0) (cond (M0.ge b.hi 0) true (cond (lanternref02_Wide M0 a) true (cond (lanternref02_Wide M0 b) true (fourOk (lanternref01_Div.ok M0) a b))))
    (cond (lanternref02_Wide M0 a) true (cond (lanternref02_Wide M0 b) true (fourOk (lanternref01_Div.ok M0) a b))) := rfl
  rw [e1, e2, e3, rwide ha, rwide hb, refAll]
  obtain ⟨l, h, sa⟩ := ha
  obtain ⟨m, k, sb⟩ := hb
  have inner : m ≠ 0 → k ≠ 0 → (cond (span_Wide M0 a) (span_All M0) (cond (span_Wide M0 b) (span_All M0) (fourR (lanternref01_Div M0) a b))) = (cond (span_Wide M0 a) (span_All M0) (cond (span_Wide M0 b) (span_All M0) (fourS (round_Div M0) a b))) ∧
      (cond (span_Wide M0 a) true (cond (span_Wide M0 b) true (fourOk (lanternref01_Div.ok M0) a b))) = true := by
    intro hm0 hk0
    rw [sa.wide.1, sb.wide.1]
    by_cases n1 : nm l ∧ nm h
    · by_cases n2 : nm m ∧ nm k
      · obtain ⟨q1, q2⟩ := four_eq (f := lanternref01_Div M0) (g := round_Div M0) (ok := lanternref01_Div.ok M0) sa sb (fun x y down hx hy => by
          have nx : nm x := by rcases hx with rfl | rfl <;> simp [n1]
          have ny : nm y := by rcases hy with rfl | rfl <;> simp [n2]
          have y0 : y ≠ 0 := by rcases hy with rfl | rfl <;> assumption
          obtain ⟨r1, r2⟩ := div01 nx ny y0 down
          refine ⟨r1, r2, ?_⟩
          cases down
          · obtain ⟨s, r3, _, r4⟩ := divU nx ny y0
            exact ⟨s, r4.pl, r3⟩
          · obtain ⟨s, r3, _, r4⟩ := divD nx ny y0
            exact ⟨s, r4.pl, r3⟩)
        rw [decide_eq_false (by simp [n1]), decide_eq_false (by simp [n2]), q1, q2]
        exact ⟨rfl, rfl⟩
      · rw [decide_eq_false (by simp [n1]), decide_eq_true n2]
        exact ⟨rfl, rfl⟩
    · rw [decide_eq_true n1]
      exact ⟨rfl, rfl⟩
  rw [sb.lo, sb.hi, F_le0 sb.pl, F_ge0 sb.ph]
  have hmk := sb.le
  by_cases c1 : m ≤ 0
  · rw [decide_eq_true c1]
    by_cases c2 : 0 ≤ k
    · rw [decide_eq_true c2]
      exact ⟨rfl, rfl⟩
    · rw [decide_eq_false c2, cond_true, cond_false, cond_true, cond_false, cond_true, cond_false]
      exact inner (by omega) (by omega)
  · rw [decide_eq_false c1, cond_false, cond_false, cond_false]
    exact inner (by omega) (by omega)

/-! ### Squares and roots -/
theorem rsqr {a : LSpan} (ha : SVs a) : lanternref02_Sqr M0 a = span_Sqr M0 a ∧ lanternref02_Sqr.ok M0 a = true := by
  obtain ⟨m1, m2⟩ := rmul ha ha
  unfold lanternref02_Sqr span_Sqr lanternref02_Sqr.ok
  rw [rwide ha, m1, m2, refAll]
  cases span_Wide M0 a <;> exact ⟨rfl, rfl⟩

theorem rsqrt {a : LSpan} (ha : SVs a) : lanternref02_Sqrt M0 a = span_Sqrt M0 a ∧ lanternref02_Sqrt.ok M0 a = true := by
  unfold lanternref02_Sqrt span_Sqrt lanternref02_Sqrt.ok
  rw [rwide ha, refAll]
  obtain ⟨l, h, sa⟩ := ha
  rw [sa.wide.1, sa.lo, sa.hi, F_lt0 sa.ph, F_gt0 sa.pl, F_max0 sa.pl]
  by_cases c1 : h < 0
  · rw [decide_eq_true c1]
    exact ⟨rfl, rfl⟩
  · rw [decide_eq_false c1]
    by_cases n1 : nm l ∧ nm h
    · obtain ⟨q1, q2⟩ := sqrt01 n1.2 (by omega) false
      rw [decide_eq_false (show ¬ ¬ (nm l ∧ nm h) by simp [n1]), q1, q2]
      by_cases c2 : 0 < l
      · obtain ⟨q3, q4⟩ := sqrt01 n1.1 (by omega) true
        rw [decide_eq_true c2, q3, q4, Int.max_eq_left (by omega)]
        exact ⟨rfl, rfl⟩
      · have hz : round_Sqrt M0 (F 0) true = (0, 0) := by
          rw [sqrtR_eq, number_F pl_zero, decide_eq_true nm_zero]
          have e1 := F_lt0 pl_zero
          have e2 := F_eqz pl_zero
          rw [e1, e2]
          rfl
        rw [decide_eq_false c2, Int.max_eq_right (by omega), hz]
        exact ⟨rfl, rfl⟩
    · rw [decide_eq_true (show ¬ (nm l ∧ nm h) from n1)]
      exact ⟨rfl, rfl⟩

/-! ### Around a number -/
theorem rhull {a b : LSpan} (ha : SVs a) (hb : SVs b) : lanternref02_Hull M0 a b = span_Hull M0 a b ∧ SVs (span_Hull M0 a b) := by
  obtain ⟨l, h, sa⟩ := ha
  obtain ⟨m, k, sb⟩ := hb
  unfold lanternref02_Hull span_Hull lanternref02_Least lanternref02_Greatest
  rw [sa.lo, sa.hi, sb.lo, sb.hi, lt_F sa.pl sb.pl, gt_F sa.ph sb.ph, min_F sa.pl sb.pl, max_F sa.ph sb.ph]
  have h1 := sa.le
  have h2 := sb.le
  have b1 := sa.b1
  have b2 := sa.b2
  have b3 := sa.b3
  have b4 := sa.b4
  have d1 := sb.b1
  have d2 := sb.b2
  have d3 := sb.b3
  have d4 := sb.b4
  refine ⟨?_, min l m, max h k, rfl, rfl, by omega, by omega, by omega, by omega, by omega⟩
  congr 1
  · by_cases c : l < m
    · rw [decide_eq_true c, cond_true, Int.min_eq_left (by omega)]
    · rw [decide_eq_false c, cond_false, Int.min_eq_right (by omega)]
  · by_cases c : k < h
    · rw [decide_eq_true c, cond_true, Int.max_eq_left (by omega)]
    · rw [decide_eq_false c, cond_false, Int.max_eq_right (by omega)]

end Go.Lan

/- The document's vectors and shapes are the program's; ShapeTells. -/
namespace Go.Lan

attribute [local irreducible] B

/-! ### Around any word -/
theorem ct {α : Type} (x y : α) : cond true x y = x := rfl
theorem cf {α : Type} (x y : α) : cond false x y = y := rfl

theorem rof {x : Nat} (hx : x < m64) : lanternref02_Of M0 x = span_Of M0 x ∧ SVs (span_Of M0 x) ∧ span_Of.ok M0 x = true := by
  unfold lanternref02_Of span_Of span_Of.ok
  rcases word_at hx with ⟨s, h⟩ | h
  · rcases h.word with rfl | ⟨rfl, rfl⟩
    · rw [refNumber h.pl, number_F h.pl, numberok_F h.pl, h.plain, zeroed_F h.pl, refAll]
      by_cases n : nm s
      · rw [decide_eq_true n]
        exact ⟨rfl, ⟨s, s, SV.mk' rfl rfl n n (Int.le_refl _)⟩, rfl⟩
      · rw [decide_eq_false n]
        exact ⟨rfl, ⟨_, _, all_sv⟩, rfl⟩
    · have h1 : lanternref01_Number M0 (wd true 0) = true := by kernel_rfl
      have h2 : round_Number M0 (wd true 0) = true := number_wd (by rw [I_eq]; decide)
      have h3 : round_Number.ok M0 (wd true 0) = true := numberok_wd (Nat.zero_le _)
      have h4 : lanternref01_Zeroed M0 (wd true 0) = 0 := by
        unfold lanternref01_Zeroed
        rw [eq_zero_wd (Nat.zero_le _)]; rfl
      have h5 : M0.add (wd true 0) 0 = 0 := by
        rw [plain_wd (Nat.zero_le _)]; rfl
      rw [h1, h2, h3, h4, h5]
      exact ⟨rfl, ⟨0, 0, zero_sv⟩, rfl⟩
  · have h1 : lanternref01_Number M0 x = false := by
      have hs : M0.sub x x = nanW := by
        show (D64.sub x x).getD nanW = nanW
        rw [(nan_sub x x h).1]; rfl
      unfold lanternref01_Number
      rw [hs]
      exact (nan_cmp nanW_nan 0).2.2.2.2.2.2.2.2.1
    have h0 : M0.ne x x = true := by
      show (D.order x x != some .eq) = true
      have e1 : D.order x x = none := (nan_order x x h).1
      rw [e1]; rfl
    have h2 : round_Number M0 x = false ∧ round_Number.ok M0 x = true := by
      unfold round_Number round_Number.ok math_IsNaN
      rw [h0]
      exact ⟨rfl, rfl⟩
    rw [h1, h2.1, h2.2, refAll]
    exact ⟨rfl, ⟨_, _, all_sv⟩, rfl⟩

/-! ### Vectors -/
theorem sv3_sub {a b : LV3} (ha : SV3 a) (hb : SV3 b) : SV3 (vec_Sub M0 a b) := (vsub_ni (.refl ha) (.refl hb)).left
theorem sv3_add {a b : LV3} (ha : SV3 a) (hb : SV3 b) : SV3 (vec_Add M0 a b) := (vadd_ni (.refl ha) (.refl hb)).left
theorem sv3_scale {a : LV3} {s : LSpan} (ha : SV3 a) (hs : SVs s) : SV3 (vec_Scale M0 a s) := (vscale_ni (.refl ha) (.refl hs)).left
theorem sv3_cross {a b : LV3} (ha : SV3 a) (hb : SV3 b) : SV3 (vec_Cross M0 a b) := (vcross_ni (.refl ha) (.refl hb)).left
theorem svs_vsqr {a : LV3} (ha : SV3 a) : SVs (vec_Sqr M0 a) := (vsqr_ni (.refl ha)).left

theorem r3sub {a b : LV3} (ha : SV3 a) (hb : SV3 b) : lanternref03_Sub M0 a b = vec_Sub M0 a b ∧ lanternref03_Sub.ok M0 a b = true := by
  unfold lanternref03_Sub lanternref03_Sub.ok vec_Sub vec_each_Sub
  rw [(rsub ha.1 hb.1).1, (rsub ha.2.1 hb.2.1).1, (rsub ha.2.2 hb.2.2).1, (rsub ha.1 hb.1).2, (rsub ha.2.1 hb.2.1).2, (rsub ha.2.2 hb.2.2).2]
  exact ⟨rfl, rfl⟩
theorem r3add {a b : LV3} (ha : SV3 a) (hb : SV3 b) : lanternref03_Add M0 a b = vec_Add M0 a b ∧ lanternref03_Add.ok M0 a b = true := by
  unfold lanternref03_Add lanternref03_Add.ok vec_Add vec_each_Add
  rw [(radd ha.1 hb.1).1, (radd ha.2.1 hb.2.1).1, (radd ha.2.2 hb.2.2).1, (radd ha.1 hb.1).2, (radd ha.2.1 hb.2.1).2, (radd ha.2.2 hb.2.2).2]
  exact ⟨rfl, rfl⟩
theorem r3scale {a : LV3} {s : LSpan} (ha : SV3 a) (hs : SVs s) : lanternref03_Scale M0 a s = vec_Scale M0 a s ∧ lanternref03_Scale.ok M0 a s = true := by
  unfold lanternref03_Scale lanternref03_Scale.ok vec_Scale lanternref03_All3 lanternref03_Times lanternref03_Times.ok vec_Times vec_each_Mul
  rw [(rmul ha.1 hs).1, (rmul ha.2.1 hs).1, (rmul ha.2.2 hs).1, (rmul ha.1 hs).2, (rmul ha.2.1 hs).2, (rmul ha.2.2 hs).2]
  exact ⟨rfl, rfl⟩
theorem rcross1 {x u y v : LSpan} (hx : SVs x) (hu : SVs u) (hy : SVs y) (hv : SVs v) : lanternref03_cross M0 x u y v = span_Sub M0 (span_Mul M0 x u) (span_Mul M0 y v) ∧ lanternref03_cross.ok M0 x u y v = true := by
  unfold lanternref03_cross lanternref03_cross.ok
  rw [(rmul hx hu).1, (rmul hy hv).1, (rmul hx hu).2, (rmul hy hv).2, (rsub (svs_mul hx hu) (svs_mul hy hv)).1, (rsub (svs_mul hx hu) (svs_mul hy hv)).2]
  exact ⟨rfl, rfl⟩
theorem r3cross {a b : LV3} (ha : SV3 a) (hb : SV3 b) : lanternref03_Cross M0 a b = vec_Cross M0 a b ∧ lanternref03_Cross.ok M0 a b = true := by
  obtain ⟨x1, x2⟩ := rcross1 ha.2.1 hb.2.2 ha.2.2 hb.2.1
  obtain ⟨y1, y2⟩ := rcross1 ha.2.2 hb.1 ha.1 hb.2.2
  obtain ⟨z1, z2⟩ := rcross1 ha.1 hb.2.1 ha.2.1 hb.1
  unfold lanternref03_Cross lanternref03_Cross.ok vec_Cross
  rw [x1, x2, y1, y2, z1, z2]
  exact ⟨rfl, rfl⟩
theorem r3sqr {a : LV3} (ha : SV3 a) : lanternref03_Sqr M0 a = vec_Sqr M0 a ∧ lanternref03_Sqr.ok M0 a = true := by
  obtain ⟨x1, x2⟩ := rsqr ha.1
  obtain ⟨y1, y2⟩ := rsqr ha.2.1
  obtain ⟨z1, z2⟩ := rsqr ha.2.2
  obtain ⟨u1, u2⟩ := radd (svs_sqr ha.1) (svs_sqr ha.2.1)
  obtain ⟨v1, v2⟩ := radd (NI.svs_add (svs_sqr ha.1) (svs_sqr ha.2.1)) (svs_sqr ha.2.2)
  unfold lanternref03_Sqr lanternref03_Sqr.ok lanternref03_Sum lanternref03_Sum.ok vec_Sqr
  dsimp only
  rw [x1, x2, y1, y2, z1, z2, u1, u2, v1, v2]
  exact ⟨rfl, rfl⟩
theorem r3unit {a : LV3} (ha : SV3 a) : lanternref03_Unit M0 a = vec_Unit M0 a ∧ lanternref03_Unit.ok M0 a = true ∧ vec_Unit.ok M0 a = true ∧ SV3 (vec_Unit M0 a).1 ∧ SVs (vec_Unit M0 a).2 := by
  obtain ⟨x1, x2⟩ := r3sqr ha
  have hq := svs_vsqr ha
  obtain ⟨y1, y2⟩ := rsqrt hq
  have hr := svs_sqrt hq
  obtain ⟨d1, e1⟩ := rdiv ha.1 hr
  obtain ⟨d2, e2⟩ := rdiv ha.2.1 hr
  obtain ⟨d3, e3⟩ := rdiv ha.2.2 hr
  unfold lanternref03_Unit lanternref03_Unit.ok vec_Unit vec_Unit.ok lanternref03_Over lanternref03_Over.ok
  dsimp only
  rw [x1, x2, y1, y2, d1, d2, d3, e1, e2, e3, vsqr_ok ha, sqrt_ok hq, div_ok ha.1 hr, div_ok ha.2.1 hr, div_ok ha.2.2 hr]
  exact ⟨rfl, rfl, rfl, ⟨svs_div ha.1 hr, svs_div ha.2.1 hr, svs_div ha.2.2 hr⟩, hr⟩

/-! ### Shapes -/
theorem rsides {s : LShape} (h : SShape s) : lanternref10_sides M0 s = shape_edges M0 s ∧ lanternref10_sides.ok M0 s = true ∧ SV3 (shape_edges M0 s).1 ∧ SV3 (shape_edges M0 s).2 := by
  obtain ⟨x1, x2⟩ := r3sub h.p1 h.p0
  obtain ⟨y1, y2⟩ := r3sub h.p2 h.p0
  unfold lanternref10_sides lanternref10_sides.ok shape_edges
  rw [x1, x2, y1, y2]
  exact ⟨rfl, rfl, sv3_sub h.p1 h.p0, sv3_sub h.p2 h.p0⟩

theorem rnormal {s : LShape} {p : LV3} (h : SShape s) (hp : SV3 p) : lanternref10_Normal M0 s p = shape_Normal M0 s p ∧ SV3 (shape_Normal M0 s p) ∧ lanternref10_Normal.ok M0 s p = true ∧ shape_Normal.ok M0 s p = true := by
  obtain ⟨s1, s2, s3, s4⟩ := rsides h
  obtain ⟨c1, c2⟩ := r3cross s3 s4
  obtain ⟨u1, u2, u3, u4, _⟩ := r3unit (sv3_cross s3 s4)
  obtain ⟨d1, d2⟩ := r3sub hp h.p0
  obtain ⟨v1, v2, v3, v4, _⟩ := r3unit (sv3_sub hp h.p0)
  unfold lanternref10_Normal shape_Normal lanternref10_Normal.ok shape_Normal.ok
  dsimp only
  rw [s1, s2, c1, c2, u1, u2, u3, d1, d2, v1, v2, v3, edges_ok h.p0 h.p1 h.p2, vcross_ok s3 s4, vsub_ok hp h.p0]
  by_cases hk : s.kind = 2
  · rw [beq_of hk, bne_not hk, cf (α := LV3), ct (α := LV3)]
    exact ⟨rfl, v4, rfl, rfl⟩
  · rw [beq_not hk, bne_of hk, cf (α := LV3), ct (α := LV3)]
    exact ⟨rfl, u4, rfl, rfl⟩

theorem rarea {s : LShape} (h : SShape s) : lanternref10_Area M0 s = shape_Area M0 s ∧ SVs (shape_Area M0 s) ∧ lanternref10_Area.ok M0 s = true ∧ shape_Area.ok M0 s = true := by
  obtain ⟨s1, s2, s3, s4⟩ := rsides h
  obtain ⟨c1, c2⟩ := r3cross s3 s4
  obtain ⟨u1, u2, u3, _, u5⟩ := r3unit (sv3_cross s3 s4)
  obtain ⟨o1, o2, o3⟩ := rof (x := 4602678819172646912) (by decide)
  obtain ⟨m1, m2⟩ := rmul u5 o2
  unfold lanternref10_Area shape_Area lanternref10_Area.ok shape_Area.ok
  dsimp only
  rw [s1, s2, c1, c2, u1, u2, u3, o1, o3, m1, m2, edges_ok h.p0 h.p1 h.p2, vcross_ok s3 s4, mul_ok u5 o2]
  by_cases hk : s.kind = 1
  · rw [bne_not hk, cf (α := LSpan)]
    exact ⟨rfl, svs_mul u5 o2, rfl, rfl⟩
  · rw [bne_of hk, ct (α := LSpan)]
    exact ⟨rfl, ⟨0, 0, zero_sv⟩, rfl, rfl⟩

theorem rspread {s : LShape} {u v : Nat} (h : SShape s) (hu : u < m64) (hv : v < m64) : lanternref10_Spread M0 s u v = shape_Spread M0 s u v ∧ SV3 (shape_Spread M0 s u v) ∧ lanternref10_Spread.ok M0 s u v = true ∧ shape_Spread.ok M0 s u v = true := by
  obtain ⟨s1, s2, s3, s4⟩ := rsides h
  obtain ⟨a1, a2, a3⟩ := rof hu
  obtain ⟨b1, b2, b3⟩ := rof hv
  obtain ⟨c1, c2, c3⟩ := rof (x := 4607182418800017408) (by decide)
  obtain ⟨q1, q2⟩ := rsqrt a2
  have q3 := svs_sqrt a2
  obtain ⟨d1, d2⟩ := rsub c2 b2
  have d3 := svs_sub c2 b2
  obtain ⟨e1, e2⟩ := rmul q3 d3
  have e3 := svs_mul q3 d3
  obtain ⟨f1, f2⟩ := rmul q3 b2
  have f3 := svs_mul q3 b2
  obtain ⟨g1, g2⟩ := r3scale s3 e3
  have g3 := sv3_scale s3 e3
  obtain ⟨k1, k2⟩ := r3scale s4 f3
  have k3 := sv3_scale s4 f3
  obtain ⟨l1, l2⟩ := r3add g3 k3
  have l3 := sv3_add g3 k3
  obtain ⟨n1, n2⟩ := r3add h.p0 l3
  unfold lanternref10_Spread shape_Spread lanternref10_Spread.ok shape_Spread.ok
  dsimp only
  rw [s1, s2, a1, a3, b1, b3, c1, c3, q1, q2, d1, d2, e1, e2, f1, f2, g1, g2, k1, k2, l1, l2, n1, n2, edges_ok h.p0 h.p1 h.p2, sqrt_ok a2, sub_ok c2 b2, mul_ok q3 d3, mul_ok q3 b2, vscale_ok s3 e3, vscale_ok s4 f3, vadd_ok g3 k3, vadd_ok h.p0 l3]
  by_cases hk : s.kind = 1
  · rw [bne_not hk, cf (α := LV3)]
    exact ⟨rfl, sv3_add h.p0 l3, rfl, rfl⟩
  · rw [bne_of hk, ct (α := LV3)]
    exact ⟨rfl, ⟨⟨0, 0, zero_sv⟩, ⟨0, 0, zero_sv⟩, ⟨0, 0, zero_sv⟩⟩, rfl, rfl⟩

theorem hull_assoc {a b c : LSpan} (ha : SVs a) (hb : SVs b) (hc : SVs c) : span_Hull M0 a (span_Hull M0 b c) = span_Hull M0 (span_Hull M0 a b) c := by
  obtain ⟨l, h, sa⟩ := ha
  obtain ⟨m, k, sb⟩ := hb
  obtain ⟨p, q, sc⟩ := hc
  unfold span_Hull
  dsimp only
  rw [sa.lo, sa.hi, sb.lo, sb.hi, sc.lo, sc.hi, min_F sb.pl sc.pl, max_F sb.ph sc.ph, min_F sa.pl sb.pl, max_F sa.ph sb.ph, min_F sa.pl (pl_min sb.pl sc.pl), max_F sa.ph (pl_max sb.ph sc.ph),
    min_F (pl_min sa.pl sb.pl) sc.pl, max_F (pl_max sa.ph sb.ph) sc.ph, Int.min_assoc, Int.max_assoc]

/-- One axis of a box. -/
theorem raxis {a b c r : LSpan} (ha : SVs a) (hb : SVs b) (hc : SVs c) (hr : SVs r) :
    lanternref02_Hull M0 a (lanternref02_Hull M0 b c) = span_Hull M0 (span_Hull M0 a b) c ∧ SVs (span_Hull M0 (span_Hull M0 a b) c) ∧
    lanternref02_Hull M0 (lanternref02_Sub M0 a r) (lanternref02_Add M0 a r) = span_Hull M0 (span_Sub M0 a r) (span_Add M0 a r) ∧ SVs (span_Hull M0 (span_Sub M0 a r) (span_Add M0 a r)) := by
  obtain ⟨x1, x2⟩ := rhull hb hc
  obtain ⟨y1, _⟩ := rhull ha x2
  obtain ⟨z1, z2⟩ := rhull ha hb
  obtain ⟨w1, w2⟩ := rhull z2 hc
  obtain ⟨v1, v2⟩ := rhull (svs_sub ha hr) (NI.svs_add ha hr)
  refine ⟨by rw [x1, y1, hull_assoc ha hb hc], w2, by rw [(rsub ha hr).1, (radd ha hr).1, v1], v2⟩

theorem rbounds {s : LShape} (h : SShape s) : lanternref10_Bounds M0 s = shape_Bounds M0 s ∧ lanternref10_Bounds.ok M0 s = true ∧ shape_Bounds.ok M0 s = true ∧
    ∃ l0 l1 l2 h0 h1 h2, pl l0 ∧ pl l1 ∧ pl l2 ∧ pl h0 ∧ pl h1 ∧ pl h2 ∧ shape_Bounds M0 s = ⟨⟨F l0, F l1, F l2⟩, ⟨F h0, F h1, F h2⟩⟩ := by
  obtain ⟨a1, ⟨al, ah, a2⟩, a3, ⟨al', ah', a4⟩⟩ := raxis h.p0.1 h.p1.1 h.p2.1 h.r
  obtain ⟨b1, ⟨bl, bh, b2⟩, b3, ⟨bl', bh', b4⟩⟩ := raxis h.p0.2.1 h.p1.2.1 h.p2.2.1 h.r
  obtain ⟨c1, ⟨cl, ch, c2⟩, c3, ⟨cl', ch', c4⟩⟩ := raxis h.p0.2.2 h.p1.2.2 h.p2.2.2 h.r
  have o1 := (rsub h.p0.1 h.r).2
  have o2 := (rsub h.p0.2.1 h.r).2
  have o3 := (rsub h.p0.2.2 h.r).2
  have o4 := (radd h.p0.1 h.r).2
  have o5 := (radd h.p0.2.1 h.r).2
  have o6 := (radd h.p0.2.2 h.r).2
  have q1 := sub_ok h.p0.1 h.r
  have q2 := sub_ok h.p0.2.1 h.r
  have q3 := sub_ok h.p0.2.2 h.r
  have q4 := add_ok h.p0.1 h.r
  have q5 := add_ok h.p0.2.1 h.r
  have q6 := add_ok h.p0.2.2 h.r
  unfold lanternref10_Bounds shape_Bounds lanternref10_Bounds.ok shape_Bounds.ok
  dsimp only
  rw [a1, a3, b1, b3, c1, c3, o1, o2, o3, o4, o5, o6, q1, q2, q3, q4, q5, q6]
  by_cases hk : s.kind = 1
  · rw [beq_of hk]
    refine ⟨rfl, rfl, rfl, al, bl, cl, ah, bh, ch, a2.pl, b2.pl, c2.pl, a2.ph, b2.ph, c2.ph, ?_⟩
    simp only [cond_true]
    rw [a2.lo, a2.hi, b2.lo, b2.hi, c2.lo, c2.hi]
  · rw [beq_not hk]
    refine ⟨rfl, rfl, rfl, al', bl', cl', ah', bh', ch', a4.pl, b4.pl, c4.pl, a4.ph, b4.ph, c4.ph, ?_⟩
    simp only [cond_false]
    rw [a4.lo, a4.hi, b4.lo, b4.hi, c4.lo, c4.hi]

/-! ### The statement -/
theorem same_refl {a : LSpan} (ha : SVs a) : lanternref02_Same M0 a a = true ∧ lanternref02_Same.ok M0 a a = true := by
  obtain ⟨l, h, sa⟩ := ha
  unfold lanternref02_Same lanternref02_Same.ok
  have b1 : f64bits.ok a.lo = true := by rw [sa.lo]; exact (At_F sa.pl).bits
  have b2 : f64bits.ok a.hi = true := by rw [sa.hi]; exact (At_F sa.ph).bits
  rw [b1, b2, beq_of rfl, beq_of rfl]
  exact ⟨rfl, rfl⟩
theorem same3_refl {a : LV3} (ha : SV3 a) : lanternref03_Same M0 a a = true ∧ lanternref03_Same.ok M0 a a = true := by
  obtain ⟨x1, x2⟩ := same_refl ha.1
  obtain ⟨y1, y2⟩ := same_refl ha.2.1
  obtain ⟨z1, z2⟩ := same_refl ha.2.2
  unfold lanternref03_Same lanternref03_Same.ok
  rw [x1, x2, y1, y2, z1, z2]
  exact ⟨rfl, rfl⟩

theorem tells_true {s : LShape} {p : LV3} {u v : Nat} (hs : WShape s) (hp : W6 p) (hu : u < m64) (hv : v < m64) : lanternlaw10_ShapeTells M0 s p u v = true ∧ lanternlaw10_ShapeTells.ok M0 s p u v = true := by
  obtain ⟨v1, v2⟩ := validS hs
  obtain ⟨w1, w2⟩ := valid3_sv hp
  unfold lanternlaw10_ShapeTells lanternlaw10_ShapeTells.ok
  rw [awake10, awakeok10, v2, w2]
  cases hS : lanternref10_Valid M0 s with
  | false => exact ⟨rfl, rfl⟩
  | true =>
    cases hP : lanternref03_Valid M0 p with
    | false => exact ⟨rfl, rfl⟩
    | true =>
      have S := v1 hS
      have Q := w1 hP
      obtain ⟨a1, a2, a3, a4⟩ := rnormal S Q
      obtain ⟨b1, b2, b3, b4⟩ := rarea S
      obtain ⟨c1, c2, c3, c4⟩ := rspread S hu hv
      obtain ⟨d1, d2, d3, l0, l1, l2, h0, h1, h2, k0, k1, k2, k3, k4, k5, e⟩ := rbounds S
      dsimp only
      rw [a1, a3, a4, (same3_refl a2).1, (same3_refl a2).2, b1, b3, b4, (same_refl b2).1, (same_refl b2).2, c1, c3, c4, (same3_refl c2).1, (same3_refl c2).2, d1, d2, d3, e]
      dsimp only
      rw [eq_F k0 k0, eq_F k1 k1, eq_F k2 k2, eq_F k3 k3, eq_F k4 k4, eq_F k5 k5, decide_eq_true rfl, decide_eq_true rfl, decide_eq_true rfl, decide_eq_true rfl, decide_eq_true rfl, decide_eq_true rfl]
      exact ⟨rfl, rfl⟩

end Go.Lan

/- ShapeTells, over numbers. -/
namespace Go.Lan

theorem wf_v3 {p : LV3} (h : p.wf) : W6 p := by
  obtain ⟨a0, a1, a2, a3, a4, a5⟩ := h
  exact ⟨⟨a0, a1⟩, ⟨a2, a3⟩, ⟨a4, a5⟩⟩
theorem wf_shape {s : LShape} (h : s.wf) : WShape s := by
  obtain ⟨_, a0, a1, a2, a3, a4, a5, a6, a7, a8, a9, a10, a11, a12, a13, a14, a15, a16, a17, a18, a19⟩ := h
  exact ⟨⟨⟨a0, a1⟩, ⟨a2, a3⟩, ⟨a4, a5⟩⟩, ⟨⟨a6, a7⟩, ⟨a8, a9⟩, ⟨a10, a11⟩⟩, ⟨⟨a12, a13⟩, ⟨a14, a15⟩, ⟨a16, a17⟩⟩, ⟨a18, a19⟩⟩
theorem plain_ShapeTells (s : LShape) (p : LV3) (u v : Nat) (hs : s.wf) (hp : p.wf) (hu : u < 18446744073709551616) (hv : v < 18446744073709551616) : lanternlaw10_ShapeTells M0 s p u v = true ∧ lanternlaw10_ShapeTells.ok M0 s p u v = true := tells_true (wf_shape hs) (wf_v3 hp) hu hv

end Go.Lan
