import Derived.Test.YtpgjihkaocahbaaGreatGMaMl
/- Sums of floats, rounded down and up. -/
namespace Go.Lan

attribute [local irreducible] B

/-- Two exact numbers, brought to one power, put together. -/
theorem merge_tells {na nb mb : Bool} {A C g d0 : Nat} {e e2 : Int} (hA : 2 ^ 125 ≤ A) (hA2 : A < 2 ^ 126) (hC : C < 2 ^ 126) (hg : (g : Int) = e + 1200) (he : e < 4000) (hd : d0 < 2 ^ g) (hm : mb = true ↔ 0 < d0) (hmC : mb = true → C < 2 ^ 53) {S : Int}
    (hS : S * ((2 ^ 126 : Nat) : Int) = sg na (A * 2 ^ g) + sg nb (C * 2 ^ g + d0)) : Tells (mergeX (ex na A e false) (ex nb C e2 mb)) S ∧ mergeX.ok (ex na A e false) (ex nb C e2 mb) = true := by
  have hm4 : m64 * m64 = 2 ^ 128 := by rw [m64_eq, ← Nat.pow_add]
  have hp := Nat.two_pow_pos g
  have c0 : (0 : Int) < ((2 ^ 126 : Nat) : Int) := by exact_mod_cast Nat.two_pow_pos 126
  have p1 : (2 : Nat) ^ 128 = 2 ^ 126 * 4 := by decide
  have p2 : (2 : Nat) ^ 126 = 2 ^ 125 * 2 := by decide
  have p3 : (2 : Nat) ^ 53 * 4 ≤ 2 ^ 125 := by decide
  -- the sum's sign and size
  have fin : ∀ (neg : Bool) (N d : Nat), S * ((2 ^ 126 : Nat) : Int) = sg neg (N * 2 ^ g + d) → S = sg neg S.natAbs ∧ S.natAbs * 2 ^ 126 = N * 2 ^ g + d := by
    intro neg N d h
    have h2 : S.natAbs * 2 ^ 126 = N * 2 ^ g + d := by
      have := congrArg Int.natAbs h
      rw [Int.natAbs_mul, sg_abs, Int.natAbs_natCast] at this
      exact this
    refine ⟨?_, h2⟩
    cases neg
    · rw [sgf] at h ⊢
      rcases Int.lt_or_le S 0 with h3 | h3
      · have := Int.mul_neg_of_neg_of_pos h3 c0
        omega
      · omega
    · rw [sgt] at h ⊢
      rcases Int.lt_or_le 0 S with h3 | h3
      · have := Int.mul_pos h3 c0
        omega
      · omega
  by_cases hn : na = nb
  · subst hn
    obtain ⟨a1, a2⟩ := add_ex (n := na) (mb := mb) (A := A) (C := C) (by rw [hm4]; omega) e e2
    refine ⟨?_, a2⟩
    rw [a1]
    have h1 : S * ((2 ^ 126 : Nat) : Int) = sg na ((A + C) * 2 ^ g + d0) := by
      rw [hS, Nat.add_mul]
      cases na
      · simp only [sgf]; omega
      · simp only [sgt]; omega
    obtain ⟨f1, f2⟩ := fin na (A + C) d0 h1
    exact ⟨na, A + C, g, d0, e, mb, rfl, by rw [hm4]; omega, hg, he, f1, f2, hd, hm, fun _ => lt_blen.2 (by omega)⟩
  · obtain ⟨a1, a2, a3⟩ := diff_ex (mb := mb) hn (A := A) (C := C) (by rw [hm4]; omega) (by rw [hm4]; omega) e e2
    refine ⟨?_, a3⟩
    have hnb : nb = !na := by cases na <;> cases nb <;> simp_all
    subst hnb
    cases mb
    · have hd0 : d0 = 0 := by
        rcases Nat.eq_zero_or_pos d0 with h4 | h4
        · exact h4
        · have := hm.2 h4; cases this
      subst hd0
      simp only [Bool.toNat_false, Nat.add_zero, Nat.sub_zero] at a1
      rcases Nat.lt_or_ge A C with h1 | h1
      · rw [a2 rfl h1]
        have h2 : A * 2 ^ g ≤ C * 2 ^ g := Nat.mul_le_mul_right _ (by omega)
        have h3 : S * ((2 ^ 126 : Nat) : Int) = sg (!na) ((C - A) * 2 ^ g + 0) := by
          rw [hS, Nat.sub_mul]
          cases na
          · simp only [sgf, Bool.not_false, sgt]; omega
          · simp only [sgf, Bool.not_true, sgt]; omega
        obtain ⟨f1, f2⟩ := fin (!na) (C - A) 0 h3
        exact ⟨!na, C - A, g, 0, e, false, rfl, by rw [hm4]; omega, hg, he, f1, f2, hp, by simp, by simp⟩
      · rw [a1 h1]
        have h2 : C * 2 ^ g ≤ A * 2 ^ g := Nat.mul_le_mul_right _ (by omega)
        have h3 : S * ((2 ^ 126 : Nat) : Int) = sg na ((A - C) * 2 ^ g + 0) := by
          rw [hS, Nat.sub_mul]
          cases na
          · simp only [sgf, Bool.not_false, sgt]; omega
          · simp only [sgf, Bool.not_true, sgt]; omega
        obtain ⟨f1, f2⟩ := fin na (A - C) 0 h3
        exact ⟨na, A - C, g, 0, e, false, rfl, by rw [hm4]; omega, hg, he, f1, f2, hp, by simp, by simp⟩
    · have hd0 := hm.1 rfl
      have hc := hmC rfl
      simp only [Bool.toNat_true] at a1
      rw [a1 (by omega)]
      have h2 : (C + 1) * 2 ^ g ≤ A * 2 ^ g := Nat.mul_le_mul_right _ (by omega)
      have h3 : S * ((2 ^ 126 : Nat) : Int) = sg na ((A - C - 1) * 2 ^ g + (2 ^ g - d0)) := by
        rw [hS, Nat.sub_mul, Nat.sub_mul, Nat.one_mul]
        rw [Nat.add_mul, Nat.one_mul] at h2
        cases na
        · simp only [sgf, Bool.not_false, sgt]; omega
        · simp only [sgf, Bool.not_true, sgt]; omega
      obtain ⟨f1, f2⟩ := fin na (A - C - 1) (2 ^ g - d0) h3
      exact ⟨na, A - C - 1, g, 2 ^ g - d0, e, true, rfl, by rw [hm4]; omega, hg, he, f1, f2, by omega, ⟨fun _ => by omega, fun _ => rfl⟩, fun _ => lt_blen.2 (by omega)⟩


theorem align_tells {na nb : Bool} {A C x y : Nat} (hA0 : A ≠ 0) (hA : A < 2 * B) (hC : C < 2 * B) (hx : x < 2100) (hy : y < 2100) (hlen : y + blen C ≤ x + blen A) :
    Tells (alignX (ex na A ((x : Int) - 1074) false) (ex nb C ((y : Int) - 1074) false)) (sg na (A * 2 ^ x) + sg nb (C * 2 ^ y)) ∧ alignX.ok (ex na A ((x : Int) - 1074) false) (ex nb C ((y : Int) - 1074) false) = true := by
  have hB := B_eq
  have hm := hm64
  have hm4 : m64 * m64 = 2 ^ 128 := by rw [m64_eq, ← Nat.pow_add]
  have hbA : blen A ≤ 53 := blen_le.2 (by omega)
  have hbC : blen C ≤ 53 := blen_le.2 (by omega)
  have hbA0 : 1 ≤ blen A := lt_blen.2 (by omega)
  have hmm : m64 ≤ m64 * m64 := Nat.le_mul_of_pos_left _ (by omega)
  have hAm : A < m64 * m64 := by omega
  have hCm : C < m64 * m64 := by omega
  obtain ⟨sh, hsh⟩ : ∃ sh : Nat, sh + blen A = 126 := ⟨126 - blen A, by omega⟩
  obtain ⟨l1, l2⟩ := length_ex na hAm ((x : Int) - 1074) false
  have hn : IntKind.i64.wrap (126 - round_exact_length M0 (ex na A ((x : Int) - 1074) false)) = (sh : Int) := by
    rw [l1, i_in (by omega)]; omega
  have hA2l : blen (A * 2 ^ sh) = 126 := by rw [blen_mul hA0]; omega
  have hA2a : 2 ^ 125 ≤ A * 2 ^ sh := lt_blen.1 (by omega)
  have hA2b : A * 2 ^ sh < 2 ^ 126 := blen_le.1 (by omega)
  have p1 : (2 : Nat) ^ 128 = 2 ^ 126 * 4 := by decide
  obtain ⟨q1, q2⟩ := left_ex na (N := A) (n := sh) (by rw [hm4]; omega) (by omega) ((x : Int) - 1074) (by omega) false
  obtain ⟨g, hg⟩ : ∃ g : Nat, (g : Int) = (x : Int) - 1074 - sh + 1200 := ⟨x + 126 - sh, by omega⟩
  have hAg : A * 2 ^ x * 2 ^ 126 = A * 2 ^ sh * 2 ^ g := by rw [Nat.mul_assoc, ← Nat.pow_add, Nat.mul_assoc, ← Nat.pow_add, show x + 126 = sh + g by omega]
  unfold alignX alignX.ok
  dsimp only
  rw [hn, l2, q1, q2, show (ex na (A * 2 ^ sh) ((x : Int) - 1074 - sh) false).e = (x : Int) - 1074 - sh from rfl, show (ex nb C ((y : Int) - 1074) false).e = (y : Int) - 1074 from rfl]
  have scaled : ∀ (u v : Nat) (w : Nat), w = v * 2 ^ 126 → (sg na u + sg nb v) * ((2 ^ 126 : Nat) : Int) = sg na (u * 2 ^ 126) + sg nb w := by
    intro u v w hw
    rw [hw, sg_mul, sg_mul, Int.add_mul]
  by_cases hgt : (y : Int) - 1074 > (x : Int) - 1074 - sh
  · have d1 : decide ((y : Int) - 1074 > (x : Int) - 1074 - sh) = true := decide_eq_true hgt
    rw [d1, cond_true, cond_true, cond_true, cond_true]
    obtain ⟨k, hk⟩ : ∃ k : Nat, (k : Int) = (y : Int) - 1074 - ((x : Int) - 1074 - sh) := ⟨y + sh - x, by omega⟩
    rw [i_in (n := (y : Int) - 1074 - ((x : Int) - 1074 - sh)) (by omega), ← hk]
    have hC2 : C * 2 ^ k < 2 ^ 126 := by
      by_cases h0 : C = 0
      · rw [h0, Nat.zero_mul]; exact Nat.two_pow_pos _
      · exact blen_le.1 (by rw [blen_mul h0]; omega)
    obtain ⟨r1, r2⟩ := left_ex nb (N := C) (n := k) (by rw [hm4]; omega) (by omega) ((y : Int) - 1074) (by omega) false
    rw [r1, r2, cond_true]
    have hCg : C * 2 ^ k * 2 ^ g + 0 = C * 2 ^ y * 2 ^ 126 := by rw [Nat.add_zero, Nat.mul_assoc, ← Nat.pow_add, Nat.mul_assoc, ← Nat.pow_add, show k + g = y + 126 by omega]
    exact merge_tells (d0 := 0) hA2a hA2b hC2 hg (by omega) (Nat.two_pow_pos g) (by simp) (by simp) (by rw [scaled _ _ _ hCg, hAg])
  · have d1 : decide ((y : Int) - 1074 > (x : Int) - 1074 - sh) = false := decide_eq_false hgt
    rw [d1, cond_false, cond_true, cond_true, cond_false]
    obtain ⟨k, hk⟩ : ∃ k : Nat, (k : Int) = (x : Int) - 1074 - sh - ((y : Int) - 1074) := ⟨x - sh - y, by omega⟩
    rw [i_in (n := (x : Int) - 1074 - sh - ((y : Int) - 1074)) (by omega), ← hk]
    have hC3 : C / 2 ^ k ≤ C := Nat.div_le_self _ _
    have hright : ∃ e2 : Int, round_exact_right M0 (ex nb C ((y : Int) - 1074) false) (k : Int) = ex nb (C / 2 ^ k) e2 (decide (C % 2 ^ k ≠ 0)) ∧ round_exact_right.ok M0 (ex nb C ((y : Int) - 1074) false) (k : Int) = true := by
      rcases Nat.eq_zero_or_pos k with h0 | h0
      · subst h0
        obtain ⟨r1, r2⟩ := right_zero nb C ((y : Int) - 1074) (by omega) false
        have e0 : ex nb (C / 2 ^ 0) ((y : Int) - 1074) (decide (C % 2 ^ 0 ≠ 0)) = ex nb C ((y : Int) - 1074) false := by
          rw [Nat.pow_zero, Nat.div_one, Nat.mod_one]
          rfl
        exact ⟨(y : Int) - 1074, by rw [e0]; exact r1, r2⟩
      · obtain ⟨r1, r2⟩ := right_ex nb hCm h0 (by omega) ((y : Int) - 1074) (by omega) false
        exact ⟨_, r1.trans (by rw [Bool.false_or]), r2⟩
    obtain ⟨e2, r1, r2⟩ := hright
    rw [r1, r2, cond_true]
    have hpk := Nat.two_pow_pos k
    have hmod := Nat.mod_lt C hpk
    have hkg : k ≤ g := by omega
    have hpg : 2 ^ g = 2 ^ k * 2 ^ (g - k) := by rw [← Nat.pow_add, show k + (g - k) = g by omega]
    have hp2 := Nat.two_pow_pos (g - k)
    have hCg : C / 2 ^ k * 2 ^ g + C % 2 ^ k * 2 ^ (g - k) = C * 2 ^ y * 2 ^ 126 := by
      rw [hpg, ← Nat.mul_assoc, ← Nat.add_mul, Nat.mul_assoc C, ← Nat.pow_add, show y + 126 = g - k by omega, Nat.mul_comm (C / 2 ^ k), Nat.div_add_mod]
    have p2 : (2 : Nat) ^ 53 < 2 ^ 126 := by decide
    refine merge_tells (d0 := C % 2 ^ k * 2 ^ (g - k)) hA2a hA2b (by omega) hg (by omega) ?_ ?_ (fun _ => by omega) (by rw [scaled _ _ _ hCg, hAg])
    · rw [hpg]; exact Nat.mul_lt_mul_of_pos_right hmod hp2
    · rw [decide_eq_true_eq]
      constructor
      · intro h; exact Nat.mul_pos (by omega) hp2
      · intro h h0; rw [h0, Nat.zero_mul] at h; omega

end Go.Lan

/- round.Add. -/
namespace Go.Lan

attribute [local irreducible] B

theorem one_tells {n : Bool} {m e : Nat} (hm : m < 2 * B) (he : e < 2100) : Tells (ex n m ((e : Int) - 1074) false) (sg n (m * 2 ^ e)) := by
  have hB := B_val
  have h6 := hm64
  refine ⟨n, m, e + 126, 0, (e : Int) - 1074, false, rfl, ?_, by omega, by omega, ?_, ?_, Nat.two_pow_pos _, by simp, by simp⟩
  · have : m64 ≤ m64 * m64 := Nat.le_mul_of_pos_left _ (by omega)
    omega
  · rw [sg_abs]
  · rw [sg_abs, Nat.add_zero, Nat.mul_assoc, ← Nat.pow_add]

theorem sum_tells {n1 n2 : Bool} {m1 m2 e1 e2 : Nat} (h1 : m1 < 2 * B) (h2 : m2 < 2 * B) (k1 : e1 < 2046) (k2 : e2 < 2046) :
    Tells (round_sum M0 (ex n1 m1 ((e1 : Int) - 1074) false) (ex n2 m2 ((e2 : Int) - 1074) false)) (sg n1 (m1 * 2 ^ e1) + sg n2 (m2 * 2 ^ e2)) ∧
    round_sum.ok M0 (ex n1 m1 ((e1 : Int) - 1074) false) (ex n2 m2 ((e2 : Int) - 1074) false) = true := by
  have hB := B_val
  have hB2 := B_eq
  have h6 := hm64
  have hmm : m64 ≤ m64 * m64 := Nat.le_mul_of_pos_left _ (by omega)
  rw [sumX_eq, sumX_ok]
  unfold sumX sumX.ok stepX stepX.ok
  rw [zero_ex, zero_ex]
  by_cases z1 : m1 = 0
  · subst z1
    rw [decide_eq_true rfl]
    simp only [cond_true]
    rw [Nat.zero_mul, sg_zero, Int.zero_add]
    exact ⟨one_tells h2 (by omega), trivial⟩
  · by_cases z2 : m2 = 0
    · subst z2
      rw [decide_eq_false z1, decide_eq_true rfl]
      simp only [cond_true, cond_false, Bool.not_true]
      rw [Nat.zero_mul, sg_zero, Int.add_zero]
      exact ⟨one_tells h1 (by omega), trivial⟩
    · obtain ⟨l1, l2⟩ := length_ex n1 (show m1 < m64 * m64 by omega) ((e1 : Int) - 1074) false
      obtain ⟨l3, l4⟩ := length_ex n2 (show m2 < m64 * m64 by omega) ((e2 : Int) - 1074) false
      have b1 : blen m1 ≤ 53 := blen_le.2 (by omega)
      have b2 : blen m2 ≤ 53 := blen_le.2 (by omega)
      rw [decide_eq_false z1, decide_eq_false z2, l1, l2, l3, l4, show (ex n1 m1 ((e1 : Int) - 1074) false).e = (e1 : Int) - 1074 from rfl, show (ex n2 m2 ((e2 : Int) - 1074) false).e = (e2 : Int) - 1074 from rfl,
        i_in (n := (e1 : Int) - 1074 + (blen m1 : Nat)) (by omega), i_in (n := (e2 : Int) - 1074 + (blen m2 : Nat)) (by omega)]
      simp only [Bool.not_false, cond_true, cond_false]
      by_cases hlt : (e1 : Int) - 1074 + (blen m1 : Nat) < (e2 : Int) - 1074 + (blen m2 : Nat)
      · rw [decide_eq_true hlt, cond_true, cond_true, Int.add_comm (sg n1 _)]
        exact align_tells z2 h2 h1 (by omega) (by omega) (by omega)
      · rw [decide_eq_false hlt, cond_false, cond_false]
        exact align_tells z1 h1 h2 (by omega) (by omega) (by omega)

theorem add_spec {n1 n2 : Bool} {r1 r2 : Nat} (h1 : r1 < I) (h2 : r2 < I) :
    (∃ s, round_Add M0 (wd n1 r1) (wd n2 r2) true = (F s, 0) ∧ round_Add.ok M0 (wd n1 r1) (wd n2 r2) true = true ∧ isD s (fun z => z ≤ sg n1 (V r1) + sg n2 (V r2))) ∧
    (∃ s, round_Add M0 (wd n1 r1) (wd n2 r2) false = (F s, 0) ∧ round_Add.ok M0 (wd n1 r1) (wd n2 r2) false = true ∧ isU s (fun z => sg n1 (V r1) + sg n2 (V r2) ≤ z)) := by
  obtain ⟨m1, e1, s1, v1, _, l1, _, k1⟩ := split_wd (neg := n1) h1
  obtain ⟨m2, e2, s2, v2, _, l2, _, k2⟩ := split_wd (neg := n2) h2
  have htwo : round_two M0 (wd n1 r1) (wd n2 r2) = true := by unfold round_two; rw [number_wd h1, number_wd h2]; rfl
  obtain ⟨t1, t2⟩ := sum_tells (n1 := n1) (n2 := n2) l1 l2 k1 k2
  rw [← v1, ← v2] at t1
  have eq1 : ∀ down, round_Add M0 (wd n1 r1) (wd n2 r2) down = (round_exact_to M0 (round_sum M0 (ex n1 m1 ((e1 : Int) - 1074) false) (ex n2 m2 ((e2 : Int) - 1074) false)) down, 0) := by
    intro down
    unfold round_Add
    rw [htwo, s1, s2]
    rfl
  have eq2 : ∀ down, round_exact_to.ok M0 (round_sum M0 (ex n1 m1 ((e1 : Int) - 1074) false) (ex n2 m2 ((e2 : Int) - 1074) false)) down = true → round_Add.ok M0 (wd n1 r1) (wd n2 r2) down = true := by
    intro down h
    unfold round_Add.ok
    dsimp only
    rw [htwo, twook_wd (Nat.le_of_lt h1) (Nat.le_of_lt h2), splitok_wd (Nat.le_of_lt h1), splitok_wd (Nat.le_of_lt h2), s1, s2, t2, h]
    rfl
  obtain ⟨⟨s, a1, a2, a3⟩, ⟨t, b1, b2, b3⟩⟩ := tells_to t1
  exact ⟨⟨s, by rw [eq1, a1], eq2 _ a2, a3⟩, ⟨t, by rw [eq1, b1], eq2 _ b2, b3⟩⟩

end Go.Lan

/- A digit of a long division. -/
namespace Go.Lan

def w32 : Nat := 4294967296
theorem w32_eq : w32 = 4294967296 := rfl

/-- One round: the digit is too great. -/
def dstep (b a u : Nat) (s : Nat × Nat) : Option (Bool × (Nat × Nat)) :=
  if w32 ≤ s.1 ∨ w32 * s.2 + u < s.1 * a then (if w32 ≤ s.2 + b then some (false, (s.1 - 1, s.2 + b)) else some (true, (s.1 - 1, s.2 + b))) else some (false, s)

structure DInv (b a u U : Nat) (s : Nat × Nat) : Prop where
  eq : s.1 * b + s.2 = U
  lt : s.2 < w32
  le : (U * w32 + u) / (b * w32 + a) ≤ s.1
  top : s.1 ≤ w32 + 1

theorem dstep_end {b a u U : Nat} (hb : 2147483648 ≤ b) (ha : a < w32) (hu : u < w32) (hU : U < b * w32 + a) {s : Nat × Nat} (h : DInv b a u U s) :
    (∃ r, dstep b a u s = some (false, ((U * w32 + u) / (b * w32 + a), r))) ∨ (∃ s2, dstep b a u s = some (true, s2) ∧ DInv b a u U s2 ∧ s2.2 = s.2 + b) := by
  obtain ⟨q, r⟩ := s
  obtain ⟨h1, h2, h3, h4⟩ := h
  dsimp only at h1 h2 h3 h4
  have hw := w32_eq
  have hy : 0 < b * w32 + a := by rw [hw]; omega
  have hQ : (U * w32 + u) / (b * w32 + a) < w32 := by
    refine (Nat.div_lt_iff_lt_mul hy).2 ?_
    have : (U + 1) * w32 ≤ (b * w32 + a) * w32 := Nat.mul_le_mul_right _ hU
    rw [Nat.add_mul, Nat.mul_comm (b * w32 + a)] at this
    omega
  generalize hQe : (U * w32 + u) / (b * w32 + a) = Q at *
  have leQ : ∀ x, x * (b * w32 + a) ≤ U * w32 + u → x ≤ Q := fun x hx => by rw [← hQe]; exact (Nat.le_div_iff_mul_le hy).2 hx
  have Qle : Q * (b * w32 + a) ≤ U * w32 + u := by rw [← hQe]; exact Nat.div_mul_le_self _ _
  have expand : ∀ x, x * (b * w32 + a) = x * b * w32 + x * a := fun x => by rw [Nat.mul_add, Nat.mul_assoc]
  unfold dstep
  dsimp only
  by_cases hc : w32 ≤ q ∨ w32 * r + u < q * a
  · rw [if_pos hc]
    have hq : Q < q := by
      rcases hc with hc | hc
      · omega
      · rcases Nat.lt_or_ge Q q with h5 | h5
        · exact h5
        · exfalso
          have h6 : q * (b * w32 + a) ≤ U * w32 + u := Nat.le_trans (Nat.mul_le_mul_right _ h5) Qle
          rw [expand, ← h1, Nat.add_mul, Nat.mul_comm r] at h6
          omega
    have h7 : (q - 1) * b + (r + b) = U := by
      have : q * b = (q - 1) * b + b := by
        conv => lhs; rw [show q = (q - 1) + 1 by omega]
        rw [Nat.add_mul, Nat.one_mul]
      omega
    by_cases hr : w32 ≤ r + b
    · rw [if_pos hr]
      left
      refine ⟨r + b, ?_⟩
      have h8 : q - 1 ≤ Q := leQ _ (by
        rw [expand, ← h7, Nat.add_mul]
        have h9 : (q - 1) * a ≤ w32 * (r + b) := Nat.mul_le_mul (by omega) (by omega)
        rw [Nat.mul_comm (r + b)]
        omega)
      rw [show q - 1 = Q by omega]
    · rw [if_neg hr]
      right
      exact ⟨_, rfl, ⟨h7, by dsimp only; omega, by dsimp only; rw [hQe]; omega, by dsimp only; omega⟩, rfl⟩
  · rw [if_neg hc]
    left
    refine ⟨r, ?_⟩
    have h8 : q ≤ Q := leQ _ (by
      rw [expand, ← h1, Nat.add_mul, Nat.mul_comm r]
      omega)
    rw [show q = Q by omega]

theorem drun {b a u U : Nat} (hb : 2147483648 ≤ b) (ha : a < w32) (hu : u < w32) (hU : U < b * w32 + a) {q r : Nat} (h : DInv b a u U (q, r)) :
    ∃ r2, runL (dstep b a u) 4 (q, r) = some ((U * w32 + u) / (b * w32 + a), r2) := by
  have hw := w32_eq
  simp only [runL]
  rcases dstep_end hb ha hu hU h with ⟨r2, e⟩ | ⟨s2, e, h2, e2⟩
  · rw [e]; exact ⟨r2, rfl⟩
  · rw [e]
    dsimp only
    rcases dstep_end hb ha hu hU h2 with ⟨r3, e3⟩ | ⟨s3, e3, h3, e4⟩
    · rw [e3]; exact ⟨r3, rfl⟩
    · exfalso
      have := h3.lt
      omega

/-- A loop that does these rounds. -/
theorem drun_sim {σ : Type} {b a u : Nat} {step : σ → Option (Bool × σ)} {T : Nat × Nat → σ} {J : Nat × Nat → Prop} (hs : ∀ s, J s → step (T s) = (dstep b a u s).map fun p => (p.1, T p.2)) (hJ : ∀ s s2, J s → dstep b a u s = some (true, s2) → J s2) :
    ∀ (n : Nat) (s : Nat × Nat), J s → runL step n (T s) = (runL (dstep b a u) n s).map T
  | 0, _, _ => rfl
  | n + 1, s, h => by
    simp only [runL]
    rw [hs s h]
    cases hd : dstep b a u s with
    | none => rfl
    | some p =>
      obtain ⟨g, s2⟩ := p
      cases g
      · rfl
      · exact drun_sim hs hJ n s2 (hJ s s2 h hd)

end Go.Lan

/- Div64's two loops. -/
namespace Go.Lan

def DJ (s : Nat × Nat) : Prop := s.2 < w32 ∧ s.1 ≤ w32 + 1

theorem DJ_next {b a u : Nat} {s s2 : Nat × Nat} (h : DJ s) (hd : dstep b a u s = some (true, s2)) : DJ s2 := by
  unfold dstep at hd
  split at hd
  · split at hd
    · cases hd
    · cases hd
      exact ⟨by dsimp only; omega, by have := h.2; dsimp only; omega⟩
  · cases hd

/-- The tests and the numbers of a round. -/
theorem dround {q r a b u : Nat} (hq : q ≤ w32 + 1) (hr : r < w32) (ha : a < w32) (hb : b < w32) (hu : u < w32) :
    decide (((q : Nat) : Int) ≥ 4294967296) = decide (w32 ≤ q) ∧
    (¬ w32 ≤ q → decide ((IntKind.u64.wrap (((q : Nat) : Int) * ((a : Nat) : Int))) > (IntKind.u64.wrap ((IntKind.u64.wrap (4294967296 * ((r : Nat) : Int))) + ((u : Nat) : Int)))) = decide (w32 * r + u < q * a)) ∧
    (0 < q → IntKind.u64.wrap (((q : Nat) : Int) - 1) = ((q - 1 : Nat) : Int)) ∧ IntKind.u64.wrap (((r : Nat) : Int) + ((b : Nat) : Int)) = ((r + b : Nat) : Int) ∧
    decide (((r + b : Nat) : Int) ≥ 4294967296) = decide (w32 ≤ r + b) := by
  have hm := hm64
  have hw := w32_eq
  refine ⟨by rw [Bool.eq_iff_iff, decide_eq_true_eq, decide_eq_true_eq]; omega, fun h => ?_, fun h => ?_, ?_, by rw [Bool.eq_iff_iff, decide_eq_true_eq, decide_eq_true_eq]; omega⟩
  · have h1 : q * a ≤ 4294967295 * 4294967295 := Nat.mul_le_mul (by omega) (by omega)
    have e1 : ((q : Nat) : Int) * ((a : Nat) : Int) = ((q * a : Nat) : Int) := by simp
    have e2 : (4294967296 : Int) * ((r : Nat) : Int) = ((4294967296 * r : Nat) : Int) := by simp
    rw [e1, e2, u_wrap_lt (n := q * a) (by omega), u_wrap_lt (n := 4294967296 * r) (by omega)]
    have e3 : ((4294967296 * r : Nat) : Int) + ((u : Nat) : Int) = ((4294967296 * r + u : Nat) : Int) := by simp
    rw [e3, u_wrap_lt (by omega), Bool.eq_iff_iff, decide_eq_true_eq, decide_eq_true_eq, hw]
    omega
  · have e : ((q : Nat) : Int) - 1 = ((q - 1 : Nat) : Int) := by omega
    rw [e, u_wrap_lt (by omega)]
  · have e : ((r : Nat) : Int) + ((b : Nat) : Int) = ((r + b : Nat) : Int) := by simp
    rw [e, u_wrap_lt (by omega)]

def T17 (Y s b a U u v : Nat) (p : Nat × Nat) : Int × Int × Int × Int × Int × Int × Int × Int × Int := ((Y : Int), (s : Int), (b : Int), (a : Int), (U : Int), (u : Int), (v : Int), (p.1 : Int), (p.2 : Int))
def T24 (Y s b a u q1 U : Nat) (p : Nat × Nat) : Int × Int × Int × Int × Int × Int × Int × Int × Int := ((Y : Int), (s : Int), (b : Int), (a : Int), (u : Int), (q1 : Int), (p.2 : Int), (U : Int), (p.1 : Int))

theorem step17 {Y s b a U u v : Nat} (ha : a < w32) (hb : b < w32) (hu : u < w32) (p : Nat × Nat) (h : DJ p) : bits_Div64.L17.step M0 (T17 Y s b a U u v p) = (dstep b a u p).map fun x => (x.1, T17 Y s b a U u v x.2) := by
  obtain ⟨q, r⟩ := p
  obtain ⟨d1, d2, d3, d4, d5⟩ := dround (q := q) (r := r) (a := a) (b := b) (u := u) h.2 h.1 ha hb hu
  have hw := w32_eq
  unfold bits_Div64.L17.step bits_Div64.L17.k T17 dstep
  dsimp only
  rw [d1, d4, d5]
  by_cases c1 : w32 ≤ q
  · rw [decide_eq_true c1, cond_true, if_pos (.inl c1), d3 (by omega)]
    by_cases c2 : w32 ≤ r + b
    · rw [decide_eq_true c2, cond_true, if_pos c2]; rfl
    · rw [decide_eq_false c2, cond_false, if_neg c2]; rfl
  · rw [decide_eq_false c1, cond_false, d2 c1]
    by_cases c3 : w32 * r + u < q * a
    · have hq : 0 < q := by
        rcases Nat.eq_zero_or_pos q with h0 | h0
        · rw [h0, Nat.zero_mul] at c3; omega
        · exact h0
      rw [decide_eq_true c3, cond_true, if_pos (.inr c3), d3 hq]
      by_cases c2 : w32 ≤ r + b
      · rw [decide_eq_true c2, cond_true, if_pos c2]; rfl
      · rw [decide_eq_false c2, cond_false, if_neg c2]; rfl
    · rw [decide_eq_false c3, cond_false, if_neg (by omega)]; rfl

theorem step24 {Y s b a u q1 U : Nat} (ha : a < w32) (hb : b < w32) (hu : u < w32) (p : Nat × Nat) (h : DJ p) : bits_Div64.L24.step M0 (T24 Y s b a u q1 U p) = (dstep b a u p).map fun x => (x.1, T24 Y s b a u q1 U x.2) := by
  obtain ⟨q, r⟩ := p
  obtain ⟨d1, d2, d3, d4, d5⟩ := dround (q := q) (r := r) (a := a) (b := b) (u := u) h.2 h.1 ha hb hu
  have hw := w32_eq
  unfold bits_Div64.L24.step bits_Div64.L24.k T24 dstep
  dsimp only
  rw [d1, d4, d5]
  by_cases c1 : w32 ≤ q
  · rw [decide_eq_true c1, cond_true, if_pos (.inl c1), d3 (by omega)]
    by_cases c2 : w32 ≤ r + b
    · rw [decide_eq_true c2, cond_true, if_pos c2]; rfl
    · rw [decide_eq_false c2, cond_false, if_neg c2]; rfl
  · rw [decide_eq_false c1, cond_false, d2 c1]
    by_cases c3 : w32 * r + u < q * a
    · have hq : 0 < q := by
        rcases Nat.eq_zero_or_pos q with h0 | h0
        · rw [h0, Nat.zero_mul] at c3; omega
        · exact h0
      rw [decide_eq_true c3, cond_true, if_pos (.inr c3), d3 hq]
      by_cases c2 : w32 ≤ r + b
      · rw [decide_eq_true c2, cond_true, if_pos c2]; rfl
      · rw [decide_eq_false c2, cond_false, if_neg c2]; rfl
    · rw [decide_eq_false c3, cond_false, if_neg (by omega)]; rfl

end Go.Lan

/- Div64. -/
namespace Go.Lan

theorem first_inv {b a u U : Nat} (hb : 2147483648 ≤ b) (hb2 : b < w32) (ha : a < w32) (hu : u < w32) (hU : U < b * w32 + a) : DInv b a u U (U / b, U % b) ∧ DJ (U / b, U % b) := by
  have hw := w32_eq
  have h0 : 0 < b := by omega
  have h1 := Nat.mod_lt U h0
  have htop : U / b ≤ w32 + 1 := by
    have : U / b < w32 + 2 := (Nat.div_lt_iff_lt_mul h0).2 (by
      rw [Nat.add_mul, Nat.mul_comm w32]
      omega)
    omega
  refine ⟨⟨by dsimp only; rw [Nat.mul_comm]; exact Nat.div_add_mod U b, by dsimp only; omega, ?_, htop⟩, ⟨by dsimp only; omega, htop⟩⟩
  dsimp only
  -- (U w + u) / (b w + a) ≤ U / b
  refine Nat.le_trans (Nat.div_le_div_left (Nat.le_add_right (b * w32) a) (Nat.mul_pos h0 (by omega))) ?_
  rw [Nat.mul_comm b, ← Nat.div_div_eq_div_mul, Nat.mul_comm U, Nat.mul_add_div (by omega), Nat.div_eq_of_lt hu, Nat.add_zero]
  exact Nat.le_refl _

theorem loop17 {Y s b a U u v : Nat} (hb : 2147483648 ≤ b) (hb2 : b < w32) (ha : a < w32) (hu : u < w32) (hU : U < b * w32 + a) :
    ∃ r : Nat, bits_Div64.L17 M0 Y s b a U u v (U / b : Nat) (U % b : Nat) = ((Y : Int), (s : Int), (b : Int), (a : Int), (U : Int), (u : Int), (v : Int), (((U * w32 + u) / (b * w32 + a) : Nat) : Int), (r : Int)) ∧
      bits_Div64.L17.ok M0 Y s b a U u v (U / b : Nat) (U % b : Nat) = true := by
  obtain ⟨i1, i2⟩ := first_inv hb hb2 ha hu hU
  obtain ⟨r, hr⟩ := drun hb ha hu hU i1
  have key := drun_sim (T := T17 Y s b a U u v) (J := DJ) (step := bits_Div64.L17.step M0) (fun p h => step17 ha hb2 hu p h) (fun p p2 h hd => DJ_next h hd) 4 (U / b, U % b) i2
  rw [hr] at key
  have e : T17 Y s b a U u v (U / b, U % b) = ((Y : Int), (s : Int), (b : Int), (a : Int), (U : Int), (u : Int), (v : Int), ((U / b : Nat) : Int), ((U % b : Nat) : Int)) := rfl
  rw [e] at key
  unfold bits_Div64.L17 bits_Div64.L17.ok
  rw [key]
  exact ⟨r, rfl, rfl⟩

theorem loop24 {Y s b a q1 U u : Nat} (hb : 2147483648 ≤ b) (hb2 : b < w32) (ha : a < w32) (hu : u < w32) (hU : U < b * w32 + a) :
    ∃ r : Nat, bits_Div64.L24 M0 Y s b a u q1 (U % b : Nat) U (U / b : Nat) = ((Y : Int), (s : Int), (b : Int), (a : Int), (u : Int), (q1 : Int), (r : Int), (U : Int), (((U * w32 + u) / (b * w32 + a) : Nat) : Int)) ∧
      bits_Div64.L24.ok M0 Y s b a u q1 (U % b : Nat) U (U / b : Nat) = true := by
  obtain ⟨i1, i2⟩ := first_inv hb hb2 ha hu hU
  obtain ⟨r, hr⟩ := drun hb ha hu hU i1
  have key := drun_sim (T := T24 Y s b a u q1 U) (J := DJ) (step := bits_Div64.L24.step M0) (fun p h => step24 ha hb2 hu p h) (fun p p2 h hd => DJ_next h hd) 4 (U / b, U % b) i2
  rw [hr] at key
  have e : T24 Y s b a u q1 U (U / b, U % b) = ((Y : Int), (s : Int), (b : Int), (a : Int), (u : Int), (q1 : Int), ((U % b : Nat) : Int), (U : Int), ((U / b : Nat) : Int)) := rfl
  rw [e] at key
  unfold bits_Div64.L24 bits_Div64.L24.ok
  rw [key]
  exact ⟨r, rfl, rfl⟩

end Go.Lan

/- Div64: the quotient and the rest. -/
namespace Go.Lan

theorem lead64 {y : Nat} (h : y < m64) : bits_LeadingZeros64 M0 (y : Int) = ((64 - blen y : Nat) : Int) ∧ bits_LeadingZeros64.ok M0 (y : Int) = true := by
  obtain ⟨h1, h2⟩ := len64 h
  have hb : blen y ≤ 64 := blen_le.2 (by rw [← m64_eq]; exact h)
  unfold bits_LeadingZeros64 bits_LeadingZeros64.ok
  rw [h1, h2]
  exact ⟨by rw [i_in (by omega)]; omega, rfl⟩

theorem tdiv_nat (a b : Nat) : Int.tdiv (a : Int) (b : Int) = ((a / b : Nat) : Int) := (Int.ofNat_tdiv a b).symm
theorem tmod_nat (a b : Nat) : Int.tmod (a : Int) (b : Int) = ((a % b : Nat) : Int) := (Int.ofNat_tmod a b).symm

theorem wrap_mul {a b : Nat} (h : a * b < m64) : IntKind.u64.wrap ((a : Int) * (b : Int)) = ((a * b : Nat) : Int) := by
  rw [← Int.natCast_mul, u_wrap_lt h]
theorem wrap_sub {a b : Nat} (h : b ≤ a) (ha : a < m64) : IntKind.u64.wrap ((a : Int) - (b : Int)) = ((a - b : Nat) : Int) := by
  rw [show (a : Int) - (b : Int) = ((a - b : Nat) : Int) by omega, u_wrap_lt (by omega)]

/-- (x + y - z) in 64 bits, where the true difference is one of 64 bits. -/
theorem wrap_digit {x u z r : Nat} (h : x + u = z + r) (hr : r < m64) :
    IntKind.u64.wrap ((IntKind.u64.wrap ((IntKind.u64.wrap ((x : Int))) + ((u : Nat) : Int))) - (IntKind.u64.wrap (z : Int))) = (r : Int) := by
  have hm := hm64
  rw [u_wrap, u_wrap, show (((x % m64 : Nat) : Int) + ((u : Nat) : Int)) = ((x % m64 + u : Nat) : Int) by omega, u_wrap]
  have e : ((x % m64 + u) % m64 : Nat) = (x + u) % m64 := by rw [Nat.add_mod, Nat.mod_mod, ← Nat.add_mod]
  rw [e, h, IntKind.wrap_u64, hm]
  omega

theorem div64_big {hi lo y : Nat} (h0 : 0 < hi) (hhi : hi < y) (hlo : lo < m64) (hy : y < m64) :
    bits_Div64 M0 (hi : Int) (lo : Int) (y : Int) = ((((hi * m64 + lo) / y : Nat) : Int), (((hi * m64 + lo) % y : Nat) : Int)) ∧ bits_Div64.ok M0 (hi : Int) (lo : Int) (y : Int) = true := by
  have hm := hm64
  have hme := m64_eq
  have hw := w32_eq
  have hwe : w32 = 2 ^ 32 := by decide
  have hww : w32 * w32 = m64 := by decide
  obtain ⟨z1, z2⟩ := lead64 hy
  have hb64 : blen y ≤ 64 := blen_le.2 (by rw [← m64_eq]; exact hy)
  have hbp : 0 < blen y := lt_blen.2 (by rw [Nat.pow_zero]; omega)
  obtain ⟨s, hs⟩ : ∃ s, s = 64 - blen y := ⟨_, rfl⟩
  have hps := Nat.two_pow_pos s
  have hylt : y < 2 ^ (64 - s) := by
    have : y < 2 ^ blen y := blen_le.1 (Nat.le_refl _)
    rw [show 64 - s = blen y by omega]; exact this
  have hyge : 2 ^ (63 - s) ≤ y := lt_blen.1 (by omega)
  have hpow : 2 ^ (64 - s) * 2 ^ s = m64 := by rw [hme, ← Nat.pow_add]; congr 1; omega
  have hpow' : 2 ^ (63 - s) * 2 ^ s = 2 ^ 63 := by rw [← Nat.pow_add]; congr 1; omega
  obtain ⟨Y, hY⟩ : ∃ Y, Y = y * 2 ^ s := ⟨_, rfl⟩
  have hYlt : Y < m64 := by rw [hY, ← hpow]; exact Nat.mul_lt_mul_of_pos_right hylt hps
  have hYge : 2 ^ 63 ≤ Y := by rw [hY, ← hpow']; exact Nat.mul_le_mul_right _ hyge
  have hhis : hi * 2 ^ s < m64 := by
    refine Nat.lt_trans (Nat.mul_lt_mul_of_pos_right hhi hps) ?_
    rw [← hY]; exact hYlt
  have hlod : lo / 2 ^ (64 - s) < 2 ^ s := Nat.div_lt_of_lt_mul (by rw [hpow]; exact hlo)
  -- the words
  have e0 : IntKind.u64.wrap (bits_LeadingZeros64 M0 (y : Int)) = (s : Int) := by rw [z1, ← hs, u_wrap_lt (by omega)]
  have e8 : shlV .u64 (y : Int) (s : Int) = (Y : Int) := by rw [u_shl, ← hY, Nat.mod_eq_of_lt hYlt]
  have e9 : shrV .u64 (Y : Int) 32 = ((Y / w32 : Nat) : Int) := by
    have := u_shr hYlt 32
    rw [← hwe] at this; exact this
  have e10 : M0.and .u64 (Y : Int) 4294967295 = ((Y % w32 : Nat) : Int) := by
    have := u_and hYlt (show 4294967295 < m64 by omega)
    rw [show (4294967295 : Nat) = 2 ^ 32 - 1 by decide, and_low, ← hwe] at this
    exact this
  have e12 : IntKind.u64.wrap (64 - (s : Int)) = ((64 - s : Nat) : Int) := by
    rw [show (64 : Int) - (s : Int) = ((64 - s : Nat) : Int) by omega, u_wrap_lt (by omega)]
  obtain ⟨U, hU⟩ : ∃ U, U = hi * 2 ^ s + lo / 2 ^ (64 - s) := ⟨_, rfl⟩
  have e14 : M0.or .u64 (shlV .u64 (hi : Int) (s : Int)) (shrV .u64 (lo : Int) ((64 - s : Nat) : Int)) = (U : Int) := by
    rw [u_shl, u_shr hlo, Nat.mod_eq_of_lt hhis, u_or hhis (Nat.lt_of_le_of_lt (Nat.div_le_self _ _) hlo), or_add hlod, ← hU]
  obtain ⟨L, hL⟩ : ∃ L, L = lo * 2 ^ s % m64 := ⟨_, rfl⟩
  have hLlt : L < m64 := by rw [hL]; exact Nat.mod_lt _ (by omega)
  have e15 : shlV .u64 (lo : Int) (s : Int) = (L : Int) := by rw [u_shl, ← hL]
  have e16 : shrV .u64 (L : Int) 32 = ((L / w32 : Nat) : Int) := by
    have := u_shr hLlt 32
    rw [← hwe] at this; exact this
  have e17 : M0.and .u64 (L : Int) 4294967295 = ((L % w32 : Nat) : Int) := by
    have := u_and hLlt (show 4294967295 < m64 by omega)
    rw [show (4294967295 : Nat) = 2 ^ 32 - 1 by decide, and_low, ← hwe] at this
    exact this
  -- the whole
  have hNs : (hi * m64 + lo) * 2 ^ s = U * m64 + L := by
    have h1 : lo * 2 ^ s = lo / 2 ^ (64 - s) * m64 + L := by
      have h2 := Nat.div_add_mod (lo * 2 ^ s) m64
      have h3 : lo * 2 ^ s / m64 = lo / 2 ^ (64 - s) := by rw [← hpow, Nat.mul_div_mul_right _ _ hps]
      rw [h3, ← hL, Nat.mul_comm m64] at h2
      exact h2.symm
    rw [Nat.add_mul, h1, hU, Nat.add_mul, Nat.mul_right_comm]
    omega
  have hUlt : U < Y := by
    have h1 : (hi * m64 + lo) < y * m64 := by
      have : (hi + 1) * m64 ≤ y * m64 := Nat.mul_le_mul_right _ hhi
      rw [Nat.add_mul] at this
      omega
    have h2 : (hi * m64 + lo) * 2 ^ s < y * m64 * 2 ^ s := Nat.mul_lt_mul_of_pos_right h1 hps
    rw [hNs, Nat.mul_right_comm, ← hY] at h2
    exact Nat.lt_of_mul_lt_mul_right (Nat.lt_of_le_of_lt (Nat.le_add_right _ _) h2)
  obtain ⟨b, hb⟩ : ∃ b, b = Y / w32 := ⟨_, rfl⟩
  obtain ⟨a, ha⟩ : ∃ a, a = Y % w32 := ⟨_, rfl⟩
  have hba : b * w32 + a = Y := by rw [hb, ha, Nat.mul_comm]; exact Nat.div_add_mod Y w32
  have ha' : a < w32 := by rw [ha]; exact Nat.mod_lt _ (by omega)
  have hb' : b < w32 := by rw [hb]; exact Nat.div_lt_of_lt_mul (by rw [hww]; exact hYlt)
  have hb2 : 2147483648 ≤ b := by rw [hb]; exact (Nat.le_div_iff_mul_le (by omega)).2 (by rw [hw]; omega)
  obtain ⟨u, hu⟩ : ∃ u, u = L / w32 := ⟨_, rfl⟩
  obtain ⟨v, hv⟩ : ∃ v, v = L % w32 := ⟨_, rfl⟩
  have huv : u * w32 + v = L := by rw [hu, hv, Nat.mul_comm]; exact Nat.div_add_mod L w32
  have hu' : u < w32 := by rw [hu]; exact Nat.div_lt_of_lt_mul (by rw [hww]; exact hLlt)
  have hv' : v < w32 := by rw [hv]; exact Nat.mod_lt _ (by omega)
  have hUm : U < m64 := by omega
  -- the first digit
  obtain ⟨r1, l1, l2⟩ := loop17 (Y := Y) (s := s) (b := b) (a := a) (U := U) (u := u) (v := v) hb2 hb' ha' hu' (by rw [hba]; exact hUlt)
  have d1 := Nat.div_add_mod U b
  have q18 : IntKind.u64.wrap (Int.tdiv (U : Int) (b : Int)) = ((U / b : Nat) : Int) := by
    rw [tdiv_nat, u_wrap_lt (Nat.lt_of_le_of_lt (Nat.div_le_self _ _) hUm)]
  have q20 : ∀ W : Nat, W < m64 → IntKind.u64.wrap ((W : Int) - (IntKind.u64.wrap ((((W / b : Nat)) : Int) * ((b : Nat) : Int)))) = ((W % b : Nat) : Int) := by
    intro W hW
    have d2 := Nat.div_add_mod W b
    rw [Nat.mul_comm] at d2
    rw [wrap_mul (by omega), wrap_sub (by omega) hW]
    congr 1
    omega
  obtain ⟨Q1, hQ1⟩ : ∃ Q, Q = (U * w32 + u) / (b * w32 + a) := ⟨_, rfl⟩
  obtain ⟨R1, hR1⟩ : ∃ R, R = (U * w32 + u) % (b * w32 + a) := ⟨_, rfl⟩
  have hd1 : U * w32 + u = Q1 * Y + R1 := by
    rw [hQ1, hR1, hba, Nat.mul_comm _ Y]
    exact (Nat.div_add_mod _ _).symm
  have hR1lt : R1 < Y := by rw [hR1, hba]; exact Nat.mod_lt _ (by omega)
  have hQ1lt : Q1 < w32 := by
    rw [hQ1, hba]
    refine (Nat.div_lt_iff_lt_mul (by omega)).2 ?_
    have : (U + 1) * w32 ≤ Y * w32 := Nat.mul_le_mul_right _ hUlt
    rw [Nat.add_mul, Nat.mul_comm Y] at this
    omega
  have x36 : IntKind.u64.wrap ((IntKind.u64.wrap ((IntKind.u64.wrap ((U : Int) * 4294967296)) + ((u : Nat) : Int))) - (IntKind.u64.wrap (((Q1 : Nat) : Int) * ((Y : Nat) : Int)))) = (R1 : Int) := by
    have h1 : (U : Int) * 4294967296 = ((U * w32 : Nat) : Int) := by rw [hw, Int.natCast_mul]; rfl
    rw [h1, ← Int.natCast_mul]
    exact wrap_digit hd1 (by omega)
  -- the second digit
  obtain ⟨r2, l3, l4⟩ := loop24 (Y := Y) (s := s) (b := b) (a := a) (q1 := Q1) (U := R1) (u := v) hb2 hb' ha' hv' (by rw [hba]; exact hR1lt)
  obtain ⟨Q0, hQ0⟩ : ∃ Q, Q = (R1 * w32 + v) / (b * w32 + a) := ⟨_, rfl⟩
  obtain ⟨R0, hR0⟩ : ∃ R, R = (R1 * w32 + v) % (b * w32 + a) := ⟨_, rfl⟩
  have hd0 : R1 * w32 + v = Q0 * Y + R0 := by
    rw [hQ0, hR0, hba, Nat.mul_comm _ Y]
    exact (Nat.div_add_mod _ _).symm
  have hR0lt : R0 < Y := by rw [hR0, hba]; exact Nat.mod_lt _ (by omega)
  have hQ0lt : Q0 < w32 := by
    rw [hQ0, hba]
    refine (Nat.div_lt_iff_lt_mul (by omega)).2 ?_
    have : (R1 + 1) * w32 ≤ Y * w32 := Nat.mul_le_mul_right _ hR1lt
    rw [Nat.add_mul, Nat.mul_comm Y] at this
    omega
  have q37 : IntKind.u64.wrap (Int.tdiv (R1 : Int) (b : Int)) = ((R1 / b : Nat) : Int) := by
    rw [tdiv_nat, u_wrap_lt (Nat.lt_of_le_of_lt (Nat.div_le_self _ _) (by omega))]
  have xq : IntKind.u64.wrap ((IntKind.u64.wrap (((Q1 : Nat) : Int) * 4294967296)) + ((Q0 : Nat) : Int)) = ((Q1 * w32 + Q0 : Nat) : Int) := by
    have h1 : (Q1 : Int) * 4294967296 = ((Q1 * w32 : Nat) : Int) := by rw [hw, Int.natCast_mul]; rfl
    have h2 : Q1 * w32 + Q0 < m64 := by
      have : (Q1 + 1) * w32 ≤ w32 * w32 := Nat.mul_le_mul_right _ hQ1lt
      rw [Nat.add_mul] at this
      omega
    rw [h1, u_wrap_lt (by omega), ← Int.natCast_add, u_wrap_lt h2]
  have xr : IntKind.u64.wrap ((IntKind.u64.wrap ((IntKind.u64.wrap (((R1 : Nat) : Int) * 4294967296)) + ((v : Nat) : Int))) - (IntKind.u64.wrap (((Q0 : Nat) : Int) * ((Y : Nat) : Int)))) = (R0 : Int) := by
    have h1 : (R1 : Int) * 4294967296 = ((R1 * w32 : Nat) : Int) := by rw [hw, Int.natCast_mul]; rfl
    rw [h1, ← Int.natCast_mul]
    exact wrap_digit hd0 (by omega)
  have xs : shrV .u64 (R0 : Int) (s : Int) = ((R0 / 2 ^ s : Nat) : Int) := u_shr (by omega) s
  -- all of it
  have hall : (hi * m64 + lo) * 2 ^ s = (Q1 * w32 + Q0) * Y + R0 := by
    rw [hNs, ← huv, ← hww, ← Nat.mul_assoc, ← Nat.add_assoc, ← Nat.add_mul, hd1, Nat.add_mul, Nat.add_assoc, hd0, Nat.add_mul (Q1 * w32), Nat.mul_right_comm]
    omega
  have hq : (hi * m64 + lo) / y = Q1 * w32 + Q0 := by
    have h1 : (hi * m64 + lo) * 2 ^ s / (y * 2 ^ s) = (hi * m64 + lo) / y := Nat.mul_div_mul_right _ _ hps
    rw [← h1, ← hY, hall, Nat.mul_comm _ Y, Nat.mul_add_div (by omega), Nat.div_eq_of_lt hR0lt, Nat.add_zero]
  have hr : (hi * m64 + lo) % y = R0 / 2 ^ s := by
    have h1 : (hi * m64 + lo) * 2 ^ s % (y * 2 ^ s) = (hi * m64 + lo) % y * 2 ^ s := Nat.mul_mod_mul_right _ _ _
    rw [← hY, hall, Nat.mul_comm _ Y, Nat.mul_add_mod, Nat.mod_eq_of_lt hR0lt] at h1
    rw [h1, Nat.mul_div_cancel _ hps]
  have c1 : (((y : Nat) : Int) == 0) = false := by rw [beq_eq_false_iff_ne]; omega
  have c2 : decide (((y : Nat) : Int) ≤ ((hi : Nat) : Int)) = false := decide_eq_false (by omega)
  have c3 : (((hi : Nat) : Int) == 0) = false := by rw [beq_eq_false_iff_ne]; omega
  have c4 : decide (0 ≤ ((s : Nat) : Int)) = true := decide_eq_true (by omega)
  have c5 : decide (0 ≤ ((64 - s : Nat) : Int)) = true := decide_eq_true (by omega)
  have c6 : (!decide (((b : Nat) : Int) = 0)) = true := by rw [decide_eq_false (by omega)]; rfl
  constructor
  · unfold bits_Div64
    rw [c3, cond_false]
    dsimp only
    rw [e0, e8, e9, e10, e12, e14, e15, e16, e17, ← hb, ← ha, ← hu, ← hv, q18, q20 U hUm, l1]
    dsimp only
    rw [← hQ1, x36, q37, q20 R1 (by omega), l3]
    dsimp only
    rw [← hQ0, xq, xr, xs, hq, hr]
  · unfold bits_Div64.ok
    rw [c1, c2, c3, z2]
    dsimp only
    rw [e0, e8, e9, e10, e12, e14, e15, e16, e17, ← hb, ← ha, ← hu, ← hv, q18, q20 U hUm, l1, l2, c4, c5, c6]
    dsimp only
    rw [← hQ1, x36, q37, q20 R1 (by omega), l3, l4]
    dsimp only
    rw [c4]
    rfl

theorem div64 {hi lo y : Nat} (hhi : hi < y) (hlo : lo < m64) (hy : y < m64) :
    bits_Div64 M0 (hi : Int) (lo : Int) (y : Int) = ((((hi * m64 + lo) / y : Nat) : Int), (((hi * m64 + lo) % y : Nat) : Int)) ∧ bits_Div64.ok M0 (hi : Int) (lo : Int) (y : Int) = true := by
  rcases Nat.eq_zero_or_pos hi with h0 | h0
  · subst h0
    rw [Nat.zero_mul, Nat.zero_add]
    have c1 : (((y : Nat) : Int) == 0) = false := by rw [beq_eq_false_iff_ne]; omega
    have c2 : decide (((y : Nat) : Int) ≤ ((0 : Nat) : Int)) = false := decide_eq_false (by omega)
    have c3 : (((0 : Nat) : Int) == 0) = true := rfl
    have c4 : (!decide (((y : Nat) : Int) = 0)) = true := by rw [decide_eq_false (by omega)]; rfl
    constructor
    · unfold bits_Div64
      rw [c3, cond_true, tdiv_nat, tmod_nat, u_wrap_lt (Nat.lt_of_le_of_lt (Nat.div_le_self _ _) hlo)]
    · unfold bits_Div64.ok
      rw [c1, c2, c3, c4]
      rfl
  · exact div64_big h0 hhi hlo hy

end Go.Lan

/- round.Div. -/
namespace Go.Lan

attribute [local irreducible] B

/-- A quotient of two exact numbers, by words. -/
theorem div_words {N d : Nat} (hd : 0 < d) (hN : N < m64 * m64) :
    N / d = N / m64 / d * m64 + (N / m64 % d * m64 + N % m64) / d ∧ (N / m64 % d * m64 + N % m64) / d < m64 ∧ N % d = (N / m64 % d * m64 + N % m64) % d ∧ N / m64 / d < m64 := by
  have hm := hm64
  have h1 := Nat.div_add_mod N m64
  have h2 := Nat.div_add_mod (N / m64) d
  have h3 : N / m64 % d < d := Nat.mod_lt _ hd
  have h4 : N % m64 < m64 := Nat.mod_lt _ (by omega)
  have h5 : N = d * (N / m64 / d * m64) + (N / m64 % d * m64 + N % m64) := by
    rw [← Nat.mul_assoc]
    generalize N / m64 = H at *
    generalize N % m64 = L at *
    rw [← Nat.add_assoc, ← Nat.add_mul, h2, Nat.mul_comm H, h1]
  have h6 : (N / m64 % d * m64 + N % m64) / d < m64 := by
    refine (Nat.div_lt_iff_lt_mul hd).2 ?_
    have : (N / m64 % d + 1) * m64 ≤ d * m64 := Nat.mul_le_mul_right _ h3
    rw [Nat.add_mul, Nat.mul_comm d] at this
    omega
  refine ⟨?_, h6, ?_, ?_⟩
  · conv => lhs; rw [h5]
    rw [Nat.mul_add_div hd]
  · conv => lhs; rw [h5]
    rw [Nat.mul_add_mod]
  · refine Nat.lt_of_le_of_lt (Nat.div_le_self _ _) (Nat.div_lt_of_lt_mul hN)

theorem eq_zero_wd {n : Bool} {r : Nat} (h : r ≤ I) : M0.eq (wd n r) 0 = decide (r = 0) := by
  show (D.order (wd n r) (wd false 0) == some .eq) = _
  rw [order_wd h (Nat.zero_le _), Bool.eq_iff_iff]
  simp only [beq_iff_eq, Option.some.injEq, compare_int_eq, decide_eq_true_eq, K]
  cases n <;> simp [sg]

theorem div_spec {n1 n2 : Bool} {r1 r2 : Nat} (h1 : r1 < I) (h2 : r2 < I) (h0 : r2 ≠ 0) {c : Nat} (hc : c = 1074) :
    (∃ s, round_Div M0 (wd n1 r1) (wd n2 r2) true = (F s, 0) ∧ round_Div.ok M0 (wd n1 r1) (wd n2 r2) true = true ∧ isD s (fun z => z * (V r2 : Int) ≤ sg (!(n1 == n2)) (V r1 * 2 ^ c))) ∧
    (∃ s, round_Div M0 (wd n1 r1) (wd n2 r2) false = (F s, 0) ∧ round_Div.ok M0 (wd n1 r1) (wd n2 r2) false = true ∧ isU s (fun z => sg (!(n1 == n2)) (V r1 * 2 ^ c) ≤ z * (V r2 : Int))) := by
  have hB := B_eq
  have hBv := B_val
  have hm := hm64
  have hmm : m64 * m64 = 2 ^ 128 := by decide
  obtain ⟨m1, e1, s1, v1, _, l1, _, k1⟩ := split_wd (neg := n1) h1
  obtain ⟨m2, e2, s2, v2, hr2, l2, _, k2⟩ := split_wd (neg := n2) h2
  have hm2 : m2 ≠ 0 := by
    intro e
    rw [e, Nat.zero_mul] at v2
    exact h0 (V_eqz.1 v2)
  have htwo : round_two M0 (wd n1 r1) (wd n2 r2) = true := by unfold round_two; rw [number_wd h1, number_wd h2]; rfl
  have hb1 : blen m1 ≤ 53 := blen_le.2 (by omega)
  have hb2 : blen m2 ≤ 53 := blen_le.2 (by omega)
  obtain ⟨k, hk⟩ : ∃ k, k = 117 - blen m1 := ⟨_, rfl⟩
  obtain ⟨j, hj⟩ : ∃ j, j = 53 - blen m2 := ⟨_, rfl⟩
  obtain ⟨N, hN⟩ : ∃ N, N = m1 * 2 ^ k := ⟨_, rfl⟩
  obtain ⟨d, hd⟩ : ∃ d, d = m2 * 2 ^ j := ⟨_, rfl⟩
  have hNlen : m1 ≠ 0 → blen N = 117 := fun h => by rw [hN, blen_mul h]; omega
  have hNlt : N < 2 ^ 117 := by
    by_cases h : m1 = 0
    · rw [hN, h, Nat.zero_mul]; exact Nat.two_pow_pos _
    · exact blen_le.1 (Nat.le_of_eq (hNlen h))
  have hdlen : blen d = 53 := by rw [hd, blen_mul hm2]; omega
  have hdlt : d < 2 ^ 53 := blen_le.1 (Nat.le_of_eq hdlen)
  have hdge : 2 ^ 52 ≤ d := lt_blen.1 (by omega)
  obtain ⟨a1, a2⟩ := length_ex n1 (show m1 < m64 * m64 by omega) ((e1 : Int) - 1074) false
  obtain ⟨a3, a4⟩ := length_ex n2 (show m2 < m64 * m64 by omega) ((e2 : Int) - 1074) false
  have w1 : IntKind.i64.wrap (117 - ((blen m1 : Nat) : Int)) = (k : Int) := by rw [i_in (by omega)]; omega
  have w2 : IntKind.i64.wrap (53 - ((blen m2 : Nat) : Int)) = (j : Int) := by rw [i_in (by omega)]; omega
  obtain ⟨b1, b2⟩ := left_ex n1 (N := m1) (n := k) (by rw [← hN]; omega) (by omega) ((e1 : Int) - 1074) (by omega) false
  obtain ⟨b3, b4⟩ := left_ex n2 (N := m2) (n := j) (by rw [← hd]; omega) (by omega) ((e2 : Int) - 1074) (by omega) false
  rw [← hN] at b1
  rw [← hd] at b3
  obtain ⟨q1, q2, q3, q4⟩ := div_words (N := N) (d := d) (by omega) (by omega)
  have hNh : N / m64 < m64 := Nat.div_lt_of_lt_mul (by omega)
  have hNl : N % m64 < m64 := Nat.mod_lt _ (by omega)
  have hdx : ex n2 d ((e2 : Int) - 1074 - j) false = ⟨n2, 0, (d : Nat), (e2 : Int) - 1074 - j, false⟩ := ex_small _ (by omega) _ _
  have hr1 : N / m64 % d < d := Nat.mod_lt _ (by omega)
  obtain ⟨f1, f2⟩ := div64 (hi := 0) (lo := N / m64) (y := d) (by omega) hNh (by omega)
  rw [Nat.zero_mul, Nat.zero_add] at f1
  obtain ⟨f3, f4⟩ := div64 (hi := N / m64 % d) (lo := N % m64) (y := d) hr1 hNl (by omega)
  obtain ⟨Q, hQ⟩ : ∃ Q, Q = N / d := ⟨_, rfl⟩
  obtain ⟨ρ, hρ⟩ : ∃ ρ, ρ = N % d := ⟨_, rfl⟩
  have hQd : N = Q * d + ρ := by rw [hQ, hρ, Nat.mul_comm]; exact (Nat.div_add_mod N d).symm
  have hρd : ρ < d := by rw [hρ]; exact Nat.mod_lt _ (by omega)
  obtain ⟨e, he⟩ : ∃ e : Int, e = (e1 : Int) - 1074 - k - ((e2 : Int) - 1074 - j) := ⟨_, rfl⟩
  have hwe : IntKind.i64.wrap (((e1 : Int) - 1074 - k) - ((e2 : Int) - 1074 - j)) = e := by rw [i_in (by omega), he]
  have hQlt : Q < m64 * m64 := by
    have : Q ≤ N := by rw [hQ]; exact Nat.div_le_self _ _
    omega
  have hex : (⟨!(n1 == n2), ((N / m64 / d : Nat) : Int), (((N / m64 % d * m64 + N % m64) / d : Nat) : Int), e, ((((N / m64 % d * m64 + N % m64) % d : Nat) : Int) != 0)⟩ : LExact) = ex (!(n1 == n2)) Q e (decide (ρ ≠ 0)) := by
    have g1 : Q / m64 = N / m64 / d := by
      rw [hQ, q1, Nat.mul_comm, Nat.mul_add_div (by omega), Nat.div_eq_of_lt q2, Nat.add_zero]
    have g2 : Q % m64 = (N / m64 % d * m64 + N % m64) / d := by
      rw [hQ, q1, Nat.mul_comm, Nat.mul_add_mod, Nat.mod_eq_of_lt q2]
    have g3 : ((((N / m64 % d * m64 + N % m64) % d : Nat) : Int) != 0) = decide (ρ ≠ 0) := by
      rw [← q3, ← hρ, Bool.eq_iff_iff, bne_iff_ne, decide_eq_true_eq]
      omega
    unfold ex
    rw [g1, g2, g3]
  -- sizes
  have hpk := Nat.two_pow_pos (k + j)
  have scale : ∀ z : Nat, (z * V r2 ≤ V r1 * 2 ^ c ↔ z * d * 2 ^ (e2 + k) ≤ N * 2 ^ (e1 + j + c)) ∧ (V r1 * 2 ^ c ≤ z * V r2 ↔ N * 2 ^ (e1 + j + c) ≤ z * d * 2 ^ (e2 + k)) := by
    intro z
    have x1 : z * V r2 * 2 ^ (k + j) = z * d * 2 ^ (e2 + k) := by
      rw [v2, hd, Nat.pow_add, Nat.pow_add]
      simp only [Nat.mul_assoc, Nat.mul_comm, Nat.mul_left_comm]
    have x2 : V r1 * 2 ^ c * 2 ^ (k + j) = N * 2 ^ (e1 + j + c) := by
      rw [v1, hN, Nat.pow_add, Nat.pow_add, Nat.pow_add]
      simp only [Nat.mul_assoc, Nat.mul_comm, Nat.mul_left_comm]
    rw [← x1, ← x2]
    exact ⟨⟨fun h => Nat.mul_le_mul_right _ h, fun h => Nat.le_of_mul_le_mul_right h hpk⟩, ⟨fun h => Nat.mul_le_mul_right _ h, fun h => Nat.le_of_mul_le_mul_right h hpk⟩⟩
  have sides : ∀ z : Nat, ((if (!(n1 == n2)) then sg (!(n1 == n2)) (V r1 * 2 ^ c) ≤ -(z : Int) * (V r2 : Int) else (z : Int) * (V r2 : Int) ≤ sg (!(n1 == n2)) (V r1 * 2 ^ c)) ↔ z * V r2 ≤ V r1 * 2 ^ c) ∧
      ((if (!(n1 == n2)) then -(z : Int) * (V r2 : Int) ≤ sg (!(n1 == n2)) (V r1 * 2 ^ c) else sg (!(n1 == n2)) (V r1 * 2 ^ c) ≤ (z : Int) * (V r2 : Int)) ↔ V r1 * 2 ^ c ≤ z * V r2) := by
    intro z
    have hz : ∀ x : Nat, ((z : Int) * (V r2 : Int) ≤ (x : Int) ↔ z * V r2 ≤ x) ∧ ((x : Int) ≤ (z : Int) * (V r2 : Int) ↔ x ≤ z * V r2) := fun x => by
      rw [← Int.natCast_mul, Int.ofNat_le, Int.ofNat_le]
      exact ⟨Iff.rfl, Iff.rfl⟩
    cases (!(n1 == n2))
    · rw [sgf]
      simp only [Bool.false_eq_true, if_false]
      exact hz _
    · rw [sgt]
      simp only [if_true]
      rw [Int.neg_mul, Int.neg_le_neg_iff, Int.neg_le_neg_iff]
      exact hz _
  have hV2 : (0 : Int) < (V r2 : Int) := by
    have : V r2 ≠ 0 := fun h => h0 (V_eqz.1 h)
    omega
  have key := to_signed (neg := !(n1 == n2)) (more := decide (ρ ≠ 0)) hQlt (e := e) (by omega) (fun hmo => ?_) (P := fun z => z * (V r2 : Int) ≤ sg (!(n1 == n2)) (V r1 * 2 ^ c)) (Q := fun z => sg (!(n1 == n2)) (V r1 * 2 ^ c) ≤ z * (V r2 : Int))
    (fun a b h3 h4 => Int.le_trans (Int.mul_le_mul_of_nonneg_right h3 (Int.le_of_lt hV2)) h4) (fun a b h3 h4 => Int.le_trans h4 (Int.mul_le_mul_of_nonneg_right h3 (Int.le_of_lt hV2)))
    (fun hn z hz h3 => ?_) (fun hn z hz h3 => ?_) (fun w E n hE => ?_) (fun hmo E hE z => ?_)
  · have eq1 : ∀ down, round_Div M0 (wd n1 r1) (wd n2 r2) down = (round_exact_to M0 (ex (!(n1 == n2)) Q e (decide (ρ ≠ 0))) down, 0) := by
      intro down
      unfold round_Div
      rw [htwo, eq_zero_wd (Nat.le_of_lt h2), decide_eq_false h0]
      dsimp only
      rw [s1, s2, a1, a3, w1, w2, b1, b3, hdx]
      rw [show (ex n1 N ((e1 : Int) - 1074 - k) false).hi = ((N / m64 : Nat) : Int) from rfl, show (ex n1 N ((e1 : Int) - 1074 - k) false).lo = ((N % m64 : Nat) : Int) from rfl, show (ex n1 N ((e1 : Int) - 1074 - k) false).neg = n1 from rfl, show (ex n1 N ((e1 : Int) - 1074 - k) false).e = (e1 : Int) - 1074 - k from rfl]
      dsimp only
      have f1' : bits_Div64 M0 0 ((N / m64 : Nat) : Int) ((d : Nat) : Int) = (((N / m64 / d : Nat) : Int), ((N / m64 % d : Nat) : Int)) := f1
      rw [f1']
      dsimp only
      rw [f3]
      dsimp only
      rw [hwe, hex]
      rfl
    have eq2 : ∀ down, round_exact_to.ok M0 (ex (!(n1 == n2)) Q e (decide (ρ ≠ 0))) down = true → round_Div.ok M0 (wd n1 r1) (wd n2 r2) down = true := by
      intro down h
      unfold round_Div.ok
      rw [htwo, eq_zero_wd (Nat.le_of_lt h2), decide_eq_false h0, twook_wd (Nat.le_of_lt h1) (Nat.le_of_lt h2), splitok_wd (Nat.le_of_lt h1), splitok_wd (Nat.le_of_lt h2)]
      dsimp only
      rw [s1, s2, a1, a2, a3, a4, w1, w2, b1, b2, b3, b4, hdx]
      rw [show (ex n1 N ((e1 : Int) - 1074 - k) false).hi = ((N / m64 : Nat) : Int) from rfl, show (ex n1 N ((e1 : Int) - 1074 - k) false).lo = ((N % m64 : Nat) : Int) from rfl, show (ex n1 N ((e1 : Int) - 1074 - k) false).neg = n1 from rfl, show (ex n1 N ((e1 : Int) - 1074 - k) false).e = (e1 : Int) - 1074 - k from rfl]
      dsimp only
      have f1' : bits_Div64 M0 0 ((N / m64 : Nat) : Int) ((d : Nat) : Int) = (((N / m64 / d : Nat) : Int), ((N / m64 % d : Nat) : Int)) := f1
      have f2' : bits_Div64.ok M0 0 ((N / m64 : Nat) : Int) ((d : Nat) : Int) = true := f2
      rw [f1', f2']
      dsimp only
      rw [f3, f4]
      dsimp only
      rw [hwe, hex, h]
      rfl
    obtain ⟨⟨s, x1, x2, x3⟩, ⟨t, y1, y2, y3⟩⟩ := key
    exact ⟨⟨s, by rw [eq1, x1], eq2 _ x2, x3⟩, ⟨t, by rw [eq1, y1], eq2 _ y2, y3⟩⟩
  · left
    rw [decide_eq_true_eq] at hmo
    have hm1 : m1 ≠ 0 := by
      intro h
      rw [h, Nat.zero_mul] at hN
      rw [hN] at hρ
      simp at hρ
      exact hmo hρ
    have h3 : 2 ^ 116 ≤ N := lt_blen.1 (by have := hNlen hm1; omega)
    have h4 : 2 ^ 53 ≤ Q := by
      rw [hQ]
      refine (Nat.le_div_iff_mul_le (by omega)).2 ?_
      have : 2 ^ 53 * d ≤ 2 ^ 53 * 2 ^ 53 := Nat.mul_le_mul_left _ (Nat.le_of_lt hdlt)
      omega
    exact lt_blen.2 h4
  · rw [hn, sgt] at h3
    have := Int.mul_pos hz hV2
    omega
  · rw [hn, sgf] at h3
    have := Int.mul_neg_of_neg_of_pos hz hV2
    omega
  · obtain ⟨x1, x2⟩ := sides (w * 2 ^ E)
    obtain ⟨x3, x4⟩ := scale (w * 2 ^ E)
    rw [x1, x2, x3, x4]
    have x5 : w * 2 ^ E * d * 2 ^ (e2 + k) = w * 2 ^ n * d * 2 ^ (e1 + j + c) := by
      have : E + (e2 + k) = n + (e1 + j + c) := by omega
      rw [Nat.mul_right_comm w, Nat.mul_assoc (w * d), ← Nat.pow_add, this, Nat.pow_add, ← Nat.mul_assoc, Nat.mul_right_comm w d]
    have hp := Nat.two_pow_pos (e1 + j + c)
    rw [x5]
    have x6 : ∀ a b : Nat, a * 2 ^ (e1 + j + c) ≤ b * 2 ^ (e1 + j + c) ↔ a ≤ b := fun a b => ⟨fun h => Nat.le_of_mul_le_mul_right h hp, fun h => Nat.mul_le_mul_right _ h⟩
    rw [x6, x6]
    generalize w * 2 ^ n = W
    have x7 : (W * d ≤ N ↔ W ≤ Q) := by rw [hQ]; exact (Nat.le_div_iff_mul_le (by omega)).symm
    refine ⟨x7, ?_⟩
    by_cases hz : ρ = 0
    · rw [decide_eq_false (by omega), Bool.toNat_false, Nat.add_zero, hQd, hz, Nat.add_zero]
      exact ⟨fun h => Nat.le_of_mul_le_mul_right h (by omega), fun h => Nat.mul_le_mul_right _ h⟩
    · rw [decide_eq_true hz, Bool.toNat_true]
      constructor
      · intro h
        rcases Nat.lt_or_ge Q W with h5 | h5
        · exact h5
        · exfalso
          have : W * d ≤ Q * d := Nat.mul_le_mul_right _ h5
          omega
      · intro h
        have : (Q + 1) * d ≤ W * d := Nat.mul_le_mul_right _ h
        rw [Nat.add_mul] at this
        omega
  · obtain ⟨x1, x2⟩ := sides z
    obtain ⟨x3, x4⟩ := scale z
    rw [x1, x2, x3, x4]
    have hz : ρ = 0 := by
      have := of_decide_eq_false hmo
      omega
    have x5 : N * 2 ^ (e1 + j + c) = Q * 2 ^ E * (d * 2 ^ (e2 + k)) := by
      have : e1 + j + c = E + (e2 + k) := by omega
      rw [hQd, hz, Nat.add_zero, this, Nat.pow_add]
      simp only [Nat.mul_assoc, Nat.mul_comm, Nat.mul_left_comm]
    have hp : 0 < d * 2 ^ (e2 + k) := Nat.mul_pos (by omega) (Nat.two_pow_pos _)
    rw [x5, Nat.mul_assoc z]
    exact ⟨⟨fun h => Nat.le_of_mul_le_mul_right h hp, fun h => Nat.mul_le_mul_right _ h⟩, ⟨fun h => Nat.le_of_mul_le_mul_right h hp, fun h => Nat.mul_le_mul_right _ h⟩⟩

end Go.Lan

/- round.Sqrt. -/
namespace Go.Lan

attribute [local irreducible] B

/-- Two words, compared. -/
theorem le_words {T N : Nat} : (T / m64 < N / m64 ∨ T / m64 = N / m64 ∧ T % m64 ≤ N % m64) ↔ T ≤ N := by
  have hm := hm64
  have h1 := Nat.div_add_mod T m64
  have h2 := Nat.div_add_mod N m64
  have h3 : T % m64 < m64 := Nat.mod_lt _ (by omega)
  have h4 : N % m64 < m64 := Nat.mod_lt _ (by omega)
  rw [hm] at *
  omega

/-- The root's digits down to the place p are right. -/
structure RInv (N r p : Nat) : Prop where
  mul : r % 2 ^ p = 0
  le : r * r ≤ N
  lt : N < (r + 2 ^ p) * (r + 2 ^ p)

theorem root_bound {N r p : Nat} (hN : N < 2 ^ 116) (h : RInv N r p) : r < 2 ^ 58 := by
  rcases Nat.lt_or_ge r (2 ^ 58) with h1 | h1
  · exact h1
  · exfalso
    have : 2 ^ 58 * 2 ^ 58 ≤ r * r := Nat.mul_le_mul h1 h1
    have := h.le
    omega

theorem root_next {N r p : Nat} (h : RInv N r (p + 1)) : RInv N (if (r + 2 ^ p) * (r + 2 ^ p) ≤ N then r + 2 ^ p else r) p := by
  have hp := Nat.two_pow_pos p
  have hs : 2 ^ (p + 1) = 2 ^ p + 2 ^ p := by rw [Nat.pow_succ]; omega
  have hmod : r % 2 ^ p = 0 := by
    have h1 := h.mul
    have h2 : 2 ^ p ∣ 2 ^ (p + 1) := Nat.pow_dvd_pow 2 (Nat.le_succ p)
    exact Nat.mod_eq_zero_of_dvd (Nat.dvd_trans h2 (Nat.dvd_of_mod_eq_zero h1))
  by_cases hc : (r + 2 ^ p) * (r + 2 ^ p) ≤ N
  · rw [if_pos hc]
    refine ⟨by rw [Nat.add_mod, hmod, Nat.mod_self, Nat.add_zero, Nat.zero_mod], hc, ?_⟩
    have := h.lt
    rw [hs, ← Nat.add_assoc] at this
    exact this
  · rw [if_neg hc]
    exact ⟨hmod, h.le, by omega⟩

theorem root_step {N r i : Nat} (hN : N < 2 ^ 116) (hi : i < 58) (h : RInv N r (58 - i)) :
    round_root.L3.step M0 (((N / m64 : Nat) : Int), ((N % m64 : Nat) : Int), (r : Int), (i : Int)) =
      some (true, (((N / m64 : Nat) : Int), ((N % m64 : Nat) : Int), (((if (r + 2 ^ (57 - i)) * (r + 2 ^ (57 - i)) ≤ N then r + 2 ^ (57 - i) else r : Nat)) : Int), ((i + 1 : Nat) : Int))) := by
  have hm := hm64
  have hr := root_bound hN h
  have hp : 2 ^ (57 - i) ≤ 2 ^ 57 := Nat.pow_le_pow_right (by omega) (by omega)
  have x2 : IntKind.i64.wrap (57 - ((i : Nat) : Int)) = ((57 - i : Nat) : Int) := by rw [i_in (by omega)]; omega
  have x3 : shlV .u64 1 ((57 - i : Nat) : Int) = ((2 ^ (57 - i) : Nat) : Int) := by
    have := u_shl 1 (57 - i)
    rw [Nat.one_mul, Nat.mod_eq_of_lt (by omega)] at this
    exact this
  have x4 : M0.or .u64 (r : Int) ((2 ^ (57 - i) : Nat) : Int) = ((r + 2 ^ (57 - i) : Nat) : Int) := by
    rw [u_or (by omega) (by omega)]
    congr 1
    have h1 := Nat.div_add_mod r (2 ^ (58 - i))
    rw [h.mul, Nat.add_zero, Nat.mul_comm] at h1
    have h2 := or_add (a := r / 2 ^ (58 - i)) (b := 2 ^ (57 - i)) (k := 58 - i) (Nat.pow_lt_pow_right (by omega) (by omega))
    rw [h1] at h2
    exact h2
  obtain ⟨t, ht⟩ : ∃ t, t = r + 2 ^ (57 - i) := ⟨_, rfl⟩
  have x5 : bits_Mul64 M0 (t : Int) (t : Int) = (((t * t / m64 : Nat) : Int), ((t * t % m64 : Nat) : Int)) := mul64 (by omega) (by omega)
  have x6 : IntKind.i64.wrap (((i : Nat) : Int) + 1) = ((i + 1 : Nat) : Int) := by rw [i_in (by omega)]; omega
  have hle := @le_words (t * t) N
  unfold round_root.L3.step round_root.L3.k
  dsimp only
  rw [decide_eq_true (show ((i : Nat) : Int) < 58 by omega), cond_true, x2, decide_eq_true (show (0 : Int) ≤ ((57 - i : Nat) : Int) by omega), cond_true, x3, x4, ← ht, x5, x6]
  dsimp only
  by_cases c1 : t * t / m64 < N / m64
  · rw [decide_eq_true (show ((t * t / m64 : Nat) : Int) < ((N / m64 : Nat) : Int) by omega), cond_true, if_pos (hle.1 (.inl c1))]
  · rw [decide_eq_false (show ¬ ((t * t / m64 : Nat) : Int) < ((N / m64 : Nat) : Int) by omega), cond_false]
    by_cases c2 : t * t / m64 = N / m64
    · rw [show (((t * t / m64 : Nat) : Int) == ((N / m64 : Nat) : Int)) = true by rw [beq_iff_eq]; omega, cond_true]
      by_cases c3 : t * t % m64 ≤ N % m64
      · rw [decide_eq_true (show ((t * t % m64 : Nat) : Int) ≤ ((N % m64 : Nat) : Int) by omega), cond_true, if_pos (hle.1 (.inr ⟨c2, c3⟩))]
      · rw [decide_eq_false (show ¬ ((t * t % m64 : Nat) : Int) ≤ ((N % m64 : Nat) : Int) by omega), cond_false, if_neg]
        intro h1
        rcases hle.2 h1 with h2 | h2
        · exact c1 h2
        · exact c3 h2.2
    · rw [show (((t * t / m64 : Nat) : Int) == ((N / m64 : Nat) : Int)) = false by rw [beq_eq_false_iff_ne]; omega, cond_false, if_neg]
      intro h1
      rcases hle.2 h1 with h2 | h2
      · exact c1 h2
      · exact c2 h2.1

theorem root_run {N : Nat} (hN : N < 2 ^ 116) : ∀ (n i r : Nat), i + n = 58 → RInv N r (58 - i) →
    ∃ q : Nat, q * q ≤ N ∧ N < (q + 1) * (q + 1) ∧ runL (round_root.L3.step M0) (n + 2) (((N / m64 : Nat) : Int), ((N % m64 : Nat) : Int), (r : Int), (i : Int)) = some (((N / m64 : Nat) : Int), ((N % m64 : Nat) : Int), (q : Int), 58)
  | 0, i, r, hi, h => by
    have hi' : i = 58 := by omega
    subst hi'
    refine ⟨r, h.le, ?_, rfl⟩
    have := h.lt
    simpa using this
  | n + 1, i, r, hi, h => by
    have hi' : i < 58 := by omega
    rw [show n + 1 + 2 = (n + 2) + 1 from rfl]
    simp only [runL]
    rw [root_step hN hi' h]
    dsimp only
    refine root_run hN n (i + 1) _ (by omega) ?_
    rw [show 58 - (i + 1) = 57 - i by omega]
    rw [show 58 - i = 57 - i + 1 by omega] at h
    exact root_next h

theorem root_eq {N : Nat} (hN : N < 2 ^ 116) : ∃ q : Nat, q * q ≤ N ∧ N < (q + 1) * (q + 1) ∧ round_root M0 ((N / m64 : Nat) : Int) ((N % m64 : Nat) : Int) = ((q : Int), decide (q * q ≠ N)) ∧ round_root.ok M0 ((N / m64 : Nat) : Int) ((N % m64 : Nat) : Int) = true := by
  have hm := hm64
  obtain ⟨q, h1, h2, h3⟩ := root_run hN 58 0 0 rfl ⟨Nat.zero_mod _, by omega, by
    rw [Nat.zero_add]
    have : 2 ^ (58 - 0) * 2 ^ (58 - 0) = 2 ^ 116 := by decide
    rw [this]; exact hN⟩
  have hq : q < 2 ^ 58 := by
    rcases Nat.lt_or_ge q (2 ^ 58) with h | h
    · exact h
    · have : 2 ^ 58 * 2 ^ 58 ≤ q * q := Nat.mul_le_mul h h
      omega
  refine ⟨q, h1, h2, ?_, ?_⟩
  · have hL : round_root.L3 M0 ((N / m64 : Nat) : Int) ((N % m64 : Nat) : Int) 0 0 = (((N / m64 : Nat) : Int), ((N % m64 : Nat) : Int), (q : Int), 58) := by
      unfold round_root.L3
      have e : ((0 : Nat) : Int) = 0 := rfl
      rw [e] at h3
      rw [h3]; rfl
    have x5 : bits_Mul64 M0 (q : Int) (q : Int) = (((q * q / m64 : Nat) : Int), ((q * q % m64 : Nat) : Int)) := mul64 (by omega) (by omega)
    unfold round_root
    rw [hL]
    dsimp only
    rw [x5]
    dsimp only
    have d1 := Nat.div_add_mod (q * q) m64
    have d2 := Nat.div_add_mod N m64
    by_cases c1 : q * q / m64 = N / m64
    · rw [show (((q * q / m64 : Nat) : Int) != ((N / m64 : Nat) : Int)) = false by rw [bne_eq_false_iff_eq]; omega, cond_false]
      congr 1
      rw [Bool.eq_iff_iff, bne_iff_ne, decide_eq_true_eq]
      rw [c1] at d1
      omega
    · rw [show (((q * q / m64 : Nat) : Int) != ((N / m64 : Nat) : Int)) = true by rw [bne_iff_ne]; omega, cond_true, decide_eq_true]
      intro h
      rw [h] at c1
      exact c1 rfl
  · unfold round_root.ok round_root.L3.ok
    have e : ((0 : Nat) : Int) = 0 := rfl
    rw [e] at h3
    rw [h3]
    rfl

theorem lt_zero_wd {n : Bool} {r : Nat} (h : r ≤ I) : M0.lt (wd n r) 0 = decide (n = true ∧ r ≠ 0) := by
  show (D.order (wd n r) (wd false 0) == some .lt) = _
  rw [order_wd h (Nat.zero_le _), Bool.eq_iff_iff]
  simp only [beq_iff_eq, Option.some.injEq, compare_int_lt, decide_eq_true_eq, K]
  cases n <;> simp [sg] <;> omega

theorem sq_pow (w E K : Nat) : w * 2 ^ E * (w * 2 ^ E) * 2 ^ K = w * w * 2 ^ (E + E + K) := by
  rw [Nat.mul_mul_mul_comm, ← Nat.pow_add, Nat.mul_assoc, ← Nat.pow_add]

theorem sqrt_spec {r1 : Nat} (h1 : r1 < I) (h0 : r1 ≠ 0) {c : Nat} (hc : c = 1074) :
    (∃ s, round_Sqrt M0 (wd false r1) true = (F s, 0) ∧ round_Sqrt.ok M0 (wd false r1) true = true ∧ isD s (fun z => z < 0 ∨ z * z ≤ ((V r1 * 2 ^ c : Nat) : Int))) ∧
    (∃ s, round_Sqrt M0 (wd false r1) false = (F s, 0) ∧ round_Sqrt.ok M0 (wd false r1) false = true ∧ isU s (fun z => 0 ≤ z ∧ ((V r1 * 2 ^ c : Nat) : Int) ≤ z * z)) := by
  have hB := B_eq
  have hBv := B_val
  have hm := hm64
  have hmm : m64 * m64 = 2 ^ 128 := by decide
  obtain ⟨m1, e1, s1, v1, _, l1, _, k1⟩ := split_wd (neg := false) h1
  have hm1 : m1 ≠ 0 := by
    intro e
    rw [e, Nat.zero_mul] at v1
    exact h0 (V_eqz.1 v1)
  have hb1 : blen m1 ≤ 53 := blen_le.2 (by omega)
  obtain ⟨k, hk⟩ : ∃ k, k = 115 - blen m1 := ⟨_, rfl⟩
  obtain ⟨a1, a2⟩ := length_ex false (show m1 < m64 * m64 by omega) ((e1 : Int) - 1074) false
  have w1 : IntKind.i64.wrap (115 - ((blen m1 : Nat) : Int)) = (k : Int) := by rw [i_in (by omega)]; omega
  have hlenk : blen (m1 * 2 ^ k) = 115 := by rw [blen_mul hm1]; omega
  have hltk : m1 * 2 ^ k < 2 ^ 115 := blen_le.1 (Nat.le_of_eq hlenk)
  obtain ⟨b1, b2⟩ := left_ex false (N := m1) (n := k) (by omega) (by omega) ((e1 : Int) - 1074) (by omega) false
  obtain ⟨b3, b4⟩ := left_ex false (N := m1 * 2 ^ k) (n := 1) (by omega) (by omega) ((e1 : Int) - 1074 - k) (by omega) false
  have heo : ∀ e : Int, (ex false (m1 * 2 ^ k) e false).e = e := fun _ => rfl
  have c1 : round_Number M0 (wd false r1) = true := number_wd h1
  have c2 : M0.lt (wd false r1) 0 = false := by rw [lt_zero_wd (Nat.le_of_lt h1), decide_eq_false]; simp
  have c3 : M0.eq (wd false r1) 0 = false := by rw [eq_zero_wd (Nat.le_of_lt h1), decide_eq_false h0]
  -- an even power
  have main : ∀ (K : Nat) (e : Int), K ≤ 120 → e + e = (e1 : Int) - 1074 - K → m1 * 2 ^ K < 2 ^ 116 → 2 ^ 114 ≤ m1 * 2 ^ K → 
      (∀ (q : Nat) (mo : Bool), round_root M0 ((m1 * 2 ^ K / m64 : Nat) : Int) ((m1 * 2 ^ K % m64 : Nat) : Int) = ((q : Int), mo) → round_root.ok M0 ((m1 * 2 ^ K / m64 : Nat) : Int) ((m1 * 2 ^ K % m64 : Nat) : Int) = true → ∀ down, round_Sqrt M0 (wd false r1) down = (round_exact_to M0 ⟨false, 0, (q : Int), e, mo⟩ down, 0) ∧ (round_exact_to.ok M0 ⟨false, 0, (q : Int), e, mo⟩ down = true → round_Sqrt.ok M0 (wd false r1) down = true)) →
      (∃ s, round_Sqrt M0 (wd false r1) true = (F s, 0) ∧ round_Sqrt.ok M0 (wd false r1) true = true ∧ isD s (fun z => z < 0 ∨ z * z ≤ ((V r1 * 2 ^ c : Nat) : Int))) ∧
      (∃ s, round_Sqrt M0 (wd false r1) false = (F s, 0) ∧ round_Sqrt.ok M0 (wd false r1) false = true ∧ isU s (fun z => 0 ≤ z ∧ ((V r1 * 2 ^ c : Nat) : Int) ≤ z * z)) := by
    intro K e hK he hlt hge hgo
    obtain ⟨N, hN⟩ : ∃ N, N = m1 * 2 ^ K := ⟨_, rfl⟩
    rw [← hN] at hlt hge hgo
    obtain ⟨q, q1, q2, q3, q4⟩ := root_eq hlt
    have go := hgo q _ q3 q4
    have hq58 : q < 2 ^ 58 := by
      rcases Nat.lt_or_ge q (2 ^ 58) with h | h
      · exact h
      · have : 2 ^ 58 * 2 ^ 58 ≤ q * q := Nat.mul_le_mul h h
        omega
    have hq57 : 2 ^ 57 ≤ q := by
      rcases Nat.lt_or_ge q (2 ^ 57) with h | h
      · have : (q + 1) * (q + 1) ≤ 2 ^ 57 * 2 ^ 57 := Nat.mul_le_mul h h
        omega
      · exact h
    have hex : (⟨false, 0, (q : Int), e, decide (q * q ≠ N)⟩ : LExact) = ex false q e (decide (q * q ≠ N)) := (ex_small false (by omega) e _).symm
    rw [hex] at go
    have hpk := Nat.two_pow_pos K
    have scale : ∀ z : Nat, (z * z ≤ V r1 * 2 ^ c ↔ z * z * 2 ^ K ≤ N * 2 ^ (e1 + c)) ∧ (V r1 * 2 ^ c ≤ z * z ↔ N * 2 ^ (e1 + c) ≤ z * z * 2 ^ K) := by
      intro z
      have x2 : V r1 * 2 ^ c * 2 ^ K = N * 2 ^ (e1 + c) := by
        rw [v1, hN, Nat.pow_add]
        simp only [Nat.mul_assoc, Nat.mul_comm, Nat.mul_left_comm]
      rw [← x2]
      exact ⟨⟨fun h => Nat.mul_le_mul_right _ h, fun h => Nat.le_of_mul_le_mul_right h hpk⟩, ⟨fun h => Nat.mul_le_mul_right _ h, fun h => Nat.le_of_mul_le_mul_right h hpk⟩⟩
    have hz : ∀ x z : Nat, ((((z : Nat) : Int) < 0 ∨ ((z : Nat) : Int) * ((z : Nat) : Int) ≤ ((x : Nat) : Int)) ↔ z * z ≤ x) ∧ ((0 ≤ ((z : Nat) : Int) ∧ ((x : Nat) : Int) ≤ ((z : Nat) : Int) * ((z : Nat) : Int)) ↔ x ≤ z * z) := fun x z => by
      rw [← Int.natCast_mul, Int.ofNat_le, Int.ofNat_le]
      exact ⟨⟨fun h => h.elim (fun h => by omega) id, .inr⟩, ⟨fun h => h.2, fun h => ⟨by omega, h⟩⟩⟩
    have sq : ∀ {a b : Nat}, a * a ≤ b * b ↔ a ≤ b := fun {a b} => ⟨fun h => by
      rcases Nat.lt_or_ge b a with h1 | h1
      · have : (b + 1) * (b + 1) ≤ a * a := Nat.mul_le_mul h1 h1
        have h2 : (b + 1) * (b + 1) = b * b + b + b + 1 := by rw [Nat.add_mul, Nat.mul_add]; omega
        omega
      · exact h1, fun h => Nat.mul_le_mul h h⟩
    have leq : ∀ W : Nat, W * W ≤ N ↔ W ≤ q := fun W => ⟨fun h => by
      rcases Nat.lt_or_ge q W with h1 | h1
      · have : (q + 1) * (q + 1) ≤ W * W := Nat.mul_le_mul h1 h1
        omega
      · exact h1, fun h => Nat.le_trans (Nat.mul_le_mul h h) q1⟩
    have key := to_signed (neg := false) (more := decide (q * q ≠ N)) (N := q) (by omega) (e := e) (by omega) (fun _ => .inl (lt_blen.2 (by omega))) (P := fun z => z < 0 ∨ z * z ≤ ((V r1 * 2 ^ c : Nat) : Int)) (Q := fun z => 0 ≤ z ∧ ((V r1 * 2 ^ c : Nat) : Int) ≤ z * z)
      (fun a b h3 h4 => by
        rcases Int.lt_or_le a 0 with h5 | h5
        · exact .inl h5
        · refine .inr ?_
          rcases h4 with h4 | h4
          · omega
          · exact Int.le_trans (Int.mul_le_mul h3 h3 h5 (by omega)) h4)
      (fun a b h3 h4 => ⟨by omega, Int.le_trans h4.2 (Int.mul_le_mul h3 h3 h4.1 (by omega))⟩)
      (fun hn => by cases hn) (fun _ z hz h3 => by omega) (fun w E n hE => ?_) (fun hmo E hE z => ?_)
    · obtain ⟨⟨s, x1, x2, x3⟩, ⟨t, y1, y2, y3⟩⟩ := key
      exact ⟨⟨s, by rw [(go true).1, x1], (go true).2 x2, x3⟩, ⟨t, by rw [(go false).1, y1], (go false).2 y2, y3⟩⟩
    · simp only [Bool.false_eq_true, if_false]
      obtain ⟨x1, x2⟩ := hz (V r1 * 2 ^ c) (w * 2 ^ E)
      obtain ⟨x3, x4⟩ := scale (w * 2 ^ E)
      rw [x1, x2, x3, x4]
      have hp := Nat.two_pow_pos (e1 + c)
      have x5 : w * 2 ^ E * (w * 2 ^ E) * 2 ^ K = w * 2 ^ n * (w * 2 ^ n) * 2 ^ (e1 + c) := by
        have : E + E + K = n + n + (e1 + c) := by omega
        rw [sq_pow, sq_pow, this]
      rw [x5]
      have x6 : ∀ a b : Nat, a * 2 ^ (e1 + c) ≤ b * 2 ^ (e1 + c) ↔ a ≤ b := fun a b => ⟨fun h => Nat.le_of_mul_le_mul_right h hp, fun h => Nat.mul_le_mul_right _ h⟩
      rw [x6, x6]
      generalize w * 2 ^ n = W
      refine ⟨leq W, ?_⟩
      by_cases hsq : q * q = N
      · rw [decide_eq_false (by omega), Bool.toNat_false, Nat.add_zero, ← hsq]
        exact sq
      · rw [decide_eq_true hsq, Bool.toNat_true]
        constructor
        · intro h
          rcases Nat.lt_or_ge q W with h5 | h5
          · exact h5
          · have := (leq W).2 h5
            have : W * W ≤ q * q := Nat.mul_le_mul h5 h5
            omega
        · intro h
          have : (q + 1) * (q + 1) ≤ W * W := Nat.mul_le_mul h h
          omega
    · simp only [Bool.false_eq_true, if_false]
      have hsq : q * q = N := by
        have := of_decide_eq_false hmo
        omega
      obtain ⟨x1, x2⟩ := hz (V r1 * 2 ^ c) z
      obtain ⟨x3, x4⟩ := scale z
      rw [x1, x2, x3, x4]
      have x5 : N * 2 ^ (e1 + c) = q * 2 ^ E * (q * 2 ^ E) * 2 ^ K := by
        have : e1 + c = E + E + K := by omega
        rw [← hsq, this, sq_pow]
      rw [x5]
      exact ⟨⟨fun h => sq.1 (Nat.le_of_mul_le_mul_right h hpk), fun h => Nat.mul_le_mul_right _ (sq.2 h)⟩, ⟨fun h => sq.1 (Nat.le_of_mul_le_mul_right h hpk), fun h => Nat.mul_le_mul_right _ (sq.2 h)⟩⟩
  have hge : 2 ^ 114 ≤ m1 * 2 ^ k := lt_blen.1 (by omega)
  by_cases hpar : Int.tmod ((e1 : Int) - 1074 - k) 2 = 0
  · have hev : ((Int.tmod ((e1 : Int) - 1074 - k) 2 : Int) != 0) = false := by rw [bne_eq_false_iff_eq]; exact hpar
    obtain ⟨e, he⟩ : ∃ e : Int, e = Int.tdiv ((e1 : Int) - 1074 - k) 2 := ⟨_, rfl⟩
    have hee : e + e = (e1 : Int) - 1074 - k := by
      have := Int.mul_tdiv_cancel' (Int.dvd_of_tmod_eq_zero hpar)
      rw [← he] at this
      omega
    have hwe : IntKind.i64.wrap e = e := i_in (by omega)
    refine main k e (by omega) hee (by omega) hge fun q mo g1 g2 down => ⟨?_, fun g3 => ?_⟩
    · unfold round_Sqrt
      rw [c1, c2, c3]
      dsimp only
      rw [s1, a1, w1, b1]
      rw [heo, hev, ← he, hwe, show (ex false (m1 * 2 ^ k) ((e1 : Int) - 1074 - k) false).hi = ((m1 * 2 ^ k / m64 : Nat) : Int) from rfl, show (ex false (m1 * 2 ^ k) ((e1 : Int) - 1074 - k) false).lo = ((m1 * 2 ^ k % m64 : Nat) : Int) from rfl, g1]
      rfl
    · unfold round_Sqrt.ok
      rw [c1, c2, c3, numberok_wd (Nat.le_of_lt h1), splitok_wd (Nat.le_of_lt h1)]
      dsimp only
      rw [s1, a1, a2, w1, b1, b2]
      rw [heo, hev, ← he, hwe, show (ex false (m1 * 2 ^ k) ((e1 : Int) - 1074 - k) false).hi = ((m1 * 2 ^ k / m64 : Nat) : Int) from rfl, show (ex false (m1 * 2 ^ k) ((e1 : Int) - 1074 - k) false).lo = ((m1 * 2 ^ k % m64 : Nat) : Int) from rfl, g1, g2]
      dsimp only
      rw [g3]
      rfl
  · have hev : ((Int.tmod ((e1 : Int) - 1074 - k) 2 : Int) != 0) = true := by rw [bne_iff_ne]; exact hpar
    have hodd : ((e1 : Int) - 1074 - k) % 2 = 1 := by
      have h3 : Int.tmod ((e1 : Int) - 1074 - k) 2 = 0 ↔ (2 : Int) ∣ ((e1 : Int) - 1074 - k) := Int.dvd_iff_tmod_eq_zero.symm
      rw [h3] at hpar
      omega
    have hk1 : m1 * 2 ^ k * 2 ^ 1 = m1 * 2 ^ (k + 1) := by rw [Nat.mul_assoc, ← Nat.pow_add]
    rw [hk1] at b3
    obtain ⟨e, he⟩ : ∃ e : Int, e = Int.tdiv ((e1 : Int) - 1074 - k - (1 : Nat)) 2 := ⟨_, rfl⟩
    have hee : e + e = (e1 : Int) - 1074 - (k + 1 : Nat) := by
      have h4 : (2 : Int) ∣ ((e1 : Int) - 1074 - k - (1 : Nat)) := by omega
      have := Int.mul_tdiv_cancel' h4
      rw [← he] at this
      omega
    have hwe : IntKind.i64.wrap e = e := i_in (by omega)
    have b3' : round_exact_left M0 (ex false (m1 * 2 ^ k) ((e1 : Int) - 1074 - k) false) 1 = ex false (m1 * 2 ^ (k + 1)) ((e1 : Int) - 1074 - k - (1 : Nat)) false := b3
    have b4' : round_exact_left.ok M0 (ex false (m1 * 2 ^ k) ((e1 : Int) - 1074 - k) false) 1 = true := b4
    have heo2 : (ex false (m1 * 2 ^ (k + 1)) ((e1 : Int) - 1074 - k - (1 : Nat)) false).e = ((e1 : Int) - 1074 - k - (1 : Nat)) := rfl
    refine main (k + 1) e (by omega) hee (by rw [← hk1]; omega) (by rw [← hk1]; omega) fun q mo g1 g2 down => ⟨?_, fun g3 => ?_⟩
    · unfold round_Sqrt
      rw [c1, c2, c3]
      dsimp only
      rw [s1, a1, w1, b1]
      rw [heo, hev, b3', heo2, ← he, hwe, show (ex false (m1 * 2 ^ (k + 1)) ((e1 : Int) - 1074 - k - (1 : Nat)) false).hi = ((m1 * 2 ^ (k + 1) / m64 : Nat) : Int) from rfl, show (ex false (m1 * 2 ^ (k + 1)) ((e1 : Int) - 1074 - k - (1 : Nat)) false).lo = ((m1 * 2 ^ (k + 1) % m64 : Nat) : Int) from rfl, g1]
      rfl
    · unfold round_Sqrt.ok
      rw [c1, c2, c3, numberok_wd (Nat.le_of_lt h1), splitok_wd (Nat.le_of_lt h1)]
      dsimp only
      rw [s1, a1, a2, w1, b1, b2]
      rw [heo, hev, b3', b4', heo2, ← he, hwe, show (ex false (m1 * 2 ^ (k + 1)) ((e1 : Int) - 1074 - k - (1 : Nat)) false).hi = ((m1 * 2 ^ (k + 1) / m64 : Nat) : Int) from rfl, show (ex false (m1 * 2 ^ (k + 1)) ((e1 : Int) - 1074 - k - (1 : Nat)) false).lo = ((m1 * 2 ^ (k + 1) % m64 : Nat) : Int) from rfl, g1, g2]
      dsimp only
      rw [g3]
      rfl

end Go.Lan

/- Numbers and their sums, products, quotients and roots, by places. -/
namespace Go.Lan

attribute [local irreducible] B

instance (s : Int) : Decidable (nm s) := inferInstanceAs (Decidable (_ ∧ _))

theorem I_pos : 0 < (I : Int) := by have := I_eq; omega
theorem pl_abs {s : Int} (h : pl s) : s.natAbs ≤ I := by have := h.1; have := h.2; omega
theorem nm_abs {s : Int} (h : nm s) : s.natAbs < I := by have := h.1; have := h.2; omega
theorem Wi_F (s : Int) : Wi s = sg (decide (s < 0)) (V s.natAbs) := rfl

theorem inf_hi : math_Inf M0 1 = F I := by
  have : F (I : Int) = I := F_nat I
  rw [this, I_eq]; rfl
theorem inf_lo : math_Inf M0 (-1) = F (-(I : Int)) := by
  have h : F (-(I : Int)) = 9223372036854775808 + I := by
    have hI := I_eq
    unfold F wd
    rw [if_pos (by omega), if_pos rfl]
    congr 1
    omega
  rw [h, I_eq]; rfl

theorem isInf_F {s : Int} (h : pl s) : math_IsInf M0 (F s) 0 = decide (s = (I : Int) ∨ s = -(I : Int)) := by
  rw [F_wd, isInf_wd (pl_abs h), Bool.eq_iff_iff, decide_eq_true_eq, decide_eq_true_eq]
  omega
theorem isInfok_F {s : Int} (h : pl s) : math_IsInf.ok M0 (F s) 0 = true := by
  rw [F_wd]; exact isInfok_wd (pl_abs h)
theorem number_F {s : Int} (h : pl s) : round_Number M0 (F s) = decide (nm s) := by
  have hI := I_eq
  by_cases hn : nm s
  · rw [F_wd, number_wd (nm_abs hn), decide_eq_true hn]
  · have : s.natAbs = I := by
      have h1 := h.1
      have h2 := h.2
      unfold nm at hn
      omega
    rw [F_wd, this, number_inf, decide_eq_false hn]
theorem numberok_F {s : Int} (h : pl s) : round_Number.ok M0 (F s) = true := by
  rw [F_wd]; exact numberok_wd (pl_abs h)
theorem two_F {s t : Int} (h : pl s) (k : pl t) : round_two M0 (F s) (F t) = decide (nm s ∧ nm t) := by
  unfold round_two
  rw [number_F h, number_F k]
  by_cases h1 : nm s <;> by_cases h2 : nm t <;> simp [h1, h2]
theorem twook_F {s t : Int} (h : pl s) (k : pl t) : round_two.ok M0 (F s) (F t) = true := by
  rw [F_wd, F_wd]; exact twook_wd (pl_abs h) (pl_abs k)

theorem nm_zero : nm 0 := by have := I_pos; exact ⟨by omega, by omega⟩
theorem pl_zero : pl 0 := nm_zero.pl

/-- What is known of two ends, one told by what lies below a number and one by what lies above it. -/
theorem isD_le_isU {s t : Int} {P Q : Int → Prop} (h : isD s P) (k : isU t Q) (hPQ : ∀ x y, P x → Q y → x ≤ y) : s ≤ t := by
  rcases h.at_ with h1 | h1
  · have := k.lo; omega
  · rcases k.at_ with h2 | h2
    · have := h.hi; omega
    · exact Wi_le.1 (hPQ _ _ h1 h2)
theorem isD.pl {s : Int} {P : Int → Prop} (h : isD s P) : pl s := ⟨h.lo, Int.le_of_lt h.hi⟩
theorem isU.pl {s : Int} {P : Int → Prop} (h : isU s P) : pl s := ⟨Int.le_of_lt h.lo, h.hi⟩
theorem isD.congr {s : Int} {P Q : Int → Prop} (h : isD s P) (e : ∀ z, P z ↔ Q z) : isD s Q := by
  have : P = Q := funext fun z => propext (e z)
  rw [← this]; exact h
theorem isU.congr {s : Int} {P Q : Int → Prop} (h : isU s P) (e : ∀ z, P z ↔ Q z) : isU s Q := by
  have : P = Q := funext fun z => propext (e z)
  rw [← this]; exact h
theorem isD.eq {s t : Int} {P : Int → Prop} (h : isD s P) (k : isD t P) : s = t := by
  have h1 := h.mono k fun _ h => h
  have h2 := k.mono h fun _ h => h
  omega
theorem isU.eq {s t : Int} {P : Int → Prop} (h : isU s P) (k : isU t P) : s = t := by
  have h1 := h.mono k fun _ h => h
  have h2 := k.mono h fun _ h => h
  omega

/-! ### Sums -/
theorem addD {a b : Int} (ha : nm a) (hb : nm b) : ∃ s, round_Add M0 (F a) (F b) true = (F s, 0) ∧ round_Add.ok M0 (F a) (F b) true = true ∧ isD s (fun z => z ≤ Wi a + Wi b) := by
  have := (add_spec (n1 := decide (a < 0)) (n2 := decide (b < 0)) (nm_abs ha) (nm_abs hb)).1
  rw [← F_wd, ← F_wd] at this
  exact this
theorem addU {a b : Int} (ha : nm a) (hb : nm b) : ∃ s, round_Add M0 (F a) (F b) false = (F s, 0) ∧ round_Add.ok M0 (F a) (F b) false = true ∧ isU s (fun z => Wi a + Wi b ≤ z) := by
  have := (add_spec (n1 := decide (a < 0)) (n2 := decide (b < 0)) (nm_abs ha) (nm_abs hb)).2
  rw [← F_wd, ← F_wd] at this
  exact this
theorem add_inf {a b : Int} (ha : pl a) (hb : pl b) (h : ¬ (nm a ∧ nm b)) (down : Bool) : round_Add M0 (F a) (F b) down = (0, 10) ∧ round_Add.ok M0 (F a) (F b) down = true := by
  constructor
  · unfold round_Add
    rw [two_F ha hb, decide_eq_false h]; rfl
  · unfold round_Add.ok
    rw [two_F ha hb, decide_eq_false h, twook_F ha hb]; rfl

/-! ### Products -/
def C : Int := ((2 ^ 1074 : Nat) : Int)
theorem C_pos : 0 < C := by unfold C; exact_mod_cast Nat.two_pow_pos 1074
attribute [local irreducible] C

theorem C_of {c : Nat} (hc : c = 1074) : ((2 ^ c : Nat) : Int) = C := by subst hc; unfold C; rfl

theorem mulD {a b : Int} (ha : nm a) (hb : nm b) : ∃ s, round_Mul M0 (F a) (F b) true = (F s, 0) ∧ round_Mul.ok M0 (F a) (F b) true = true ∧ isD s (fun z => z * C ≤ Wi a * Wi b) := by
  obtain ⟨c, hc⟩ : ∃ c : Nat, c = 1074 := ⟨_, rfl⟩
  have := (mul_spec (n1 := decide (a < 0)) (n2 := decide (b < 0)) (nm_abs ha) (nm_abs hb) hc).1
  rw [← F_wd, ← F_wd, C_of hc] at this
  exact this
theorem mulU {a b : Int} (ha : nm a) (hb : nm b) : ∃ s, round_Mul M0 (F a) (F b) false = (F s, 0) ∧ round_Mul.ok M0 (F a) (F b) false = true ∧ isU s (fun z => Wi a * Wi b ≤ z * C) := by
  obtain ⟨c, hc⟩ : ∃ c : Nat, c = 1074 := ⟨_, rfl⟩
  have := (mul_spec (n1 := decide (a < 0)) (n2 := decide (b < 0)) (nm_abs ha) (nm_abs hb) hc).2
  rw [← F_wd, ← F_wd, C_of hc] at this
  exact this

/-! ### Quotients -/
/-- z is at or below x over y; at or above. -/
def QD (x y z : Int) : Prop := if 0 < y then z * y ≤ x * C else x * C ≤ z * y
def QU (x y z : Int) : Prop := if 0 < y then x * C ≤ z * y else z * y ≤ x * C

theorem Wi_pos {s : Int} : 0 < Wi s ↔ 0 < s := by
  have := @Wi_lt 0 s
  rw [Wi_zero] at this; exact this
theorem Wi_neg_iff {s : Int} : Wi s < 0 ↔ s < 0 := by
  have := @Wi_lt s 0
  rw [Wi_zero] at this; exact this

theorem quot_pred {a b : Int} (hb : b ≠ 0) (z : Int) :
    (z * (V b.natAbs : Int) ≤ sg (!(decide (a < 0) == decide (b < 0))) (V a.natAbs * 2 ^ 1074) ↔ QD (Wi a) (Wi b) z) ∧
    (sg (!(decide (a < 0) == decide (b < 0))) (V a.natAbs * 2 ^ 1074) ≤ z * (V b.natAbs : Int) ↔ QU (Wi a) (Wi b) z) := by
  have h1 : sg (!(decide (a < 0) == decide (b < 0))) (V a.natAbs * 2 ^ 1074) = (if b < 0 then -(Wi a) else Wi a) * C := by
    rw [sg_mul, C_of rfl]
    congr 1
    rw [Wi_F]
    by_cases h : b < 0
    · rw [if_pos h, decide_eq_true h]
      cases decide (a < 0)
      · rw [sgf]; rfl
      · rw [sgt, Int.neg_neg]; rfl
    · rw [if_neg h, decide_eq_false h]
      cases decide (a < 0)
      · rfl
      · rfl
  have h2 : (V b.natAbs : Int) = if b < 0 then -(Wi b) else Wi b := by
    rw [Wi_F]
    by_cases h : b < 0
    · rw [if_pos h, decide_eq_true h, sgt, Int.neg_neg]
    · rw [if_neg h, decide_eq_false h, sgf]
  rw [h1, h2]
  unfold QD QU
  by_cases h : b < 0
  · have h3 : ¬ 0 < Wi b := by rw [Wi_pos]; omega
    rw [if_pos h, if_pos h, if_neg h3, if_neg h3, Int.mul_neg, Int.neg_mul, Int.neg_le_neg_iff, Int.neg_le_neg_iff]
    exact ⟨Iff.rfl, Iff.rfl⟩
  · have h3 : 0 < Wi b := by rw [Wi_pos]; omega
    rw [if_neg h, if_neg h, if_pos h3, if_pos h3]
    exact ⟨Iff.rfl, Iff.rfl⟩

theorem divD {a b : Int} (ha : nm a) (hb : nm b) (h0 : b ≠ 0) : ∃ s, round_Div M0 (F a) (F b) true = (F s, 0) ∧ round_Div.ok M0 (F a) (F b) true = true ∧ isD s (QD (Wi a) (Wi b)) := by
  obtain ⟨s, h1, h2, h3⟩ := (div_spec (n1 := decide (a < 0)) (n2 := decide (b < 0)) (nm_abs ha) (nm_abs hb) (by omega) (c := 1074) rfl).1
  rw [← F_wd, ← F_wd] at h1 h2
  exact ⟨s, h1, h2, h3.congr fun z => (quot_pred h0 z).1⟩
theorem divU {a b : Int} (ha : nm a) (hb : nm b) (h0 : b ≠ 0) : ∃ s, round_Div M0 (F a) (F b) false = (F s, 0) ∧ round_Div.ok M0 (F a) (F b) false = true ∧ isU s (QU (Wi a) (Wi b)) := by
  obtain ⟨s, h1, h2, h3⟩ := (div_spec (n1 := decide (a < 0)) (n2 := decide (b < 0)) (nm_abs ha) (nm_abs hb) (by omega) (c := 1074) rfl).2
  rw [← F_wd, ← F_wd] at h1 h2
  exact ⟨s, h1, h2, h3.congr fun z => (quot_pred h0 z).2⟩

/-! ### Roots -/
def RD (x z : Int) : Prop := z < 0 ∨ z * z ≤ x * C
def RU (x z : Int) : Prop := 0 ≤ z ∧ x * C ≤ z * z

theorem sqrtD {a : Int} (ha : nm a) (h0 : 0 ≤ a) : ∃ s, round_Sqrt M0 (F a) true = (F s, 0) ∧ round_Sqrt.ok M0 (F a) true = true ∧ isD s (RD (Wi a)) := by
  rcases Int.lt_or_eq_of_le h0 with h | h
  · obtain ⟨s, h1, h2, h3⟩ := (sqrt_spec (r1 := a.natAbs) (nm_abs ha) (by omega) (c := 1074) rfl).1
    have e : wd false a.natAbs = F a := by rw [F_wd, decide_eq_false (by omega)]
    rw [e] at h1 h2
    refine ⟨s, h1, h2, h3.congr fun z => ?_⟩
    unfold RD
    rw [Wi_F, decide_eq_false (by omega), sgf, Int.natCast_mul, C_of rfl]
  · subst h
    refine ⟨0, ?_, ?_, ⟨by have := I_pos; omega, I_pos, .inr (.inr ?_), fun t ht _ hP => ?_⟩⟩
    · unfold round_Sqrt
      rw [number_F pl_zero, decide_eq_true nm_zero]
      have e1 : M0.lt (F 0) 0 = false := by have := lt_F pl_zero pl_zero; rw [F_zero] at *; rw [this]; rfl
      have e2 : M0.eq (F 0) 0 = true := by have := eq_F pl_zero pl_zero; rw [F_zero] at *; rw [this]; rfl
      rw [e1, e2]; rfl
    · unfold round_Sqrt.ok
      rw [number_F pl_zero, decide_eq_true nm_zero, numberok_F pl_zero]
      have e1 : M0.lt (F 0) 0 = false := by have := lt_F pl_zero pl_zero; rw [F_zero] at *; rw [this]; rfl
      have e2 : M0.eq (F 0) 0 = true := by have := eq_F pl_zero pl_zero; rw [F_zero] at *; rw [this]; rfl
      rw [e1, e2]; rfl
    · rw [Wi_zero]; omega
    · have h1 := Wi_pos.2 ht
      unfold RD at hP
      rw [Wi_zero, Int.zero_mul] at hP
      rcases hP with h2 | h2
      · omega
      · have := Int.mul_pos h1 h1
        omega
theorem sqrtU {a : Int} (ha : nm a) (h0 : 0 ≤ a) : ∃ s, round_Sqrt M0 (F a) false = (F s, 0) ∧ round_Sqrt.ok M0 (F a) false = true ∧ isU s (RU (Wi a)) := by
  rcases Int.lt_or_eq_of_le h0 with h | h
  · obtain ⟨s, h1, h2, h3⟩ := (sqrt_spec (r1 := a.natAbs) (nm_abs ha) (by omega) (c := 1074) rfl).2
    have e : wd false a.natAbs = F a := by rw [F_wd, decide_eq_false (by omega)]
    rw [e] at h1 h2
    refine ⟨s, h1, h2, h3.congr fun z => ?_⟩
    unfold RU
    rw [Wi_F, decide_eq_false (by omega), sgf, Int.natCast_mul, C_of rfl]
  · subst h
    refine ⟨0, ?_, ?_, ⟨by have := I_pos; omega, Int.le_of_lt I_pos, .inr ⟨?_, ?_⟩, fun t _ ht hP => ?_⟩⟩
    · unfold round_Sqrt
      rw [number_F pl_zero, decide_eq_true nm_zero]
      have e1 : M0.lt (F 0) 0 = false := by have := lt_F pl_zero pl_zero; rw [F_zero] at *; rw [this]; rfl
      have e2 : M0.eq (F 0) 0 = true := by have := eq_F pl_zero pl_zero; rw [F_zero] at *; rw [this]; rfl
      rw [e1, e2]; rfl
    · unfold round_Sqrt.ok
      rw [number_F pl_zero, decide_eq_true nm_zero, numberok_F pl_zero]
      have e1 : M0.lt (F 0) 0 = false := by have := lt_F pl_zero pl_zero; rw [F_zero] at *; rw [this]; rfl
      have e2 : M0.eq (F 0) 0 = true := by have := eq_F pl_zero pl_zero; rw [F_zero] at *; rw [this]; rfl
      rw [e1, e2]; rfl
    · rw [Wi_zero]; omega
    · rw [Wi_zero]; omega
    · have h1 := Wi_neg_iff.2 ht
      have := hP.1
      omega

end Go.Lan

/- Spans, and spans within spans. -/
namespace Go.Lan

attribute [local irreducible] B

/-- A span from the place l to the place h. -/
structure SV (a : LSpan) (l h : Int) : Prop where
  lo : a.lo = F l
  hi : a.hi = F h
  le : l ≤ h
  b1 : -(I : Int) ≤ l
  b2 : l < I
  b3 : -(I : Int) < h
  b4 : h ≤ I

theorem SV.pl {a : LSpan} {l h : Int} (s : SV a l h) : pl l := ⟨s.b1, Int.le_of_lt s.b2⟩
theorem SV.ph {a : LSpan} {l h : Int} (s : SV a l h) : Go.Lan.pl h := ⟨Int.le_of_lt s.b3, s.b4⟩
theorem SV.eta {a : LSpan} {l h : Int} (s : SV a l h) : a = ⟨F l, F h⟩ := by
  cases a; cases s.lo; cases s.hi; rfl
theorem SV.nl {a : LSpan} {l h : Int} (s : SV a l h) : nm l ↔ l ≠ -(I : Int) := by
  have := s.b1; have := s.b2
  unfold nm; omega
theorem SV.nh {a : LSpan} {l h : Int} (s : SV a l h) : nm h ↔ h ≠ (I : Int) := by
  have := s.b3; have := s.b4
  unfold nm; omega
/-- Both ends are numbers. -/
theorem SV.wide {a : LSpan} {l h : Int} (s : SV a l h) : span_Wide M0 a = decide (¬ (nm l ∧ nm h)) ∧ span_Wide.ok M0 a = true := by
  have hI := I_pos
  unfold span_Wide span_Wide.ok
  rw [s.lo, s.hi, isInf_F s.pl, isInf_F s.ph, isInfok_F s.pl, isInfok_F s.ph]
  have h1 := s.nl
  have h2 := s.nh
  have e1 : (l = (I : Int) ∨ l = -(I : Int)) ↔ ¬ nm l := by have := s.b2; rw [h1]; omega
  have e2 : (h = (I : Int) ∨ h = -(I : Int)) ↔ ¬ nm h := by have := s.b3; rw [h2]; omega
  simp only [e1, e2]
  by_cases k1 : nm l <;> by_cases k2 : nm h <;> simp [k1, k2]

/-- Of two numbers that are ends. -/
theorem SV.mk' {a : LSpan} {l h : Int} (lo : a.lo = F l) (hi : a.hi = F h) (hl : nm l) (hh : nm h) (le : l ≤ h) : SV a l h := ⟨lo, hi, le, hl.pl.1, hl.2, hh.1, hh.pl.2⟩

theorem all_sv : SV (span_All M0) (-(I : Int)) I := by
  have := I_pos
  exact ⟨inf_lo, inf_hi, by omega, by omega, by omega, by omega, by omega⟩
theorem zero_sv : SV ⟨0, 0⟩ 0 0 := by
  have := I_pos
  exact ⟨F_zero.symm, F_zero.symm, by omega, by omega, by omega, by omega, by omega⟩

/-- a lies within b. -/
def NI (a b : LSpan) : Prop := ∃ l h m k, SV a l h ∧ SV b m k ∧ m ≤ l ∧ h ≤ k
def SVs (a : LSpan) : Prop := ∃ l h, SV a l h
theorem NI.left {a b : LSpan} (h : NI a b) : SVs a := by obtain ⟨l, h, m, k, h1, _⟩ := h; exact ⟨l, h, h1⟩
theorem NI.right {a b : LSpan} (h : NI a b) : SVs b := by obtain ⟨l, h, m, k, _, h1, _⟩ := h; exact ⟨m, k, h1⟩
theorem NI.refl {a : LSpan} (h : SVs a) : NI a a := by obtain ⟨l, h, h1⟩ := h; exact ⟨l, h, l, h, h1, h1, Int.le_refl _, Int.le_refl _⟩
theorem ni_all {a : LSpan} (h : SVs a) : NI a (span_All M0) := by obtain ⟨l, h, h1⟩ := h; exact ⟨l, h, _, _, h1, all_sv, h1.b1, h1.b4⟩
theorem ni_zero : NI ⟨0, 0⟩ ⟨0, 0⟩ := NI.refl ⟨0, 0, zero_sv⟩

theorem F_eqz {s : Int} (h : pl s) : M0.eq (F s) 0 = decide (s = 0) := by
  have := eq_F h pl_zero
  rw [F_zero] at this; exact this
theorem F_le0 {s : Int} (h : pl s) : M0.le (F s) 0 = decide (s ≤ 0) := by
  have := le_F h pl_zero
  rw [F_zero] at this; exact this
theorem F_ge0 {s : Int} (h : pl s) : M0.ge (F s) 0 = decide (0 ≤ s) := by
  have := ge_F h pl_zero
  rw [F_zero] at this; exact this
theorem F_lt0 {s : Int} (h : pl s) : M0.lt (F s) 0 = decide (s < 0) := by
  have := lt_F h pl_zero
  rw [F_zero] at this; exact this
theorem F_gt0 {s : Int} (h : pl s) : M0.gt (F s) 0 = decide (0 < s) := by
  have := gt_F h pl_zero
  rw [F_zero] at this; exact this
theorem F_max0 {s : Int} (h : pl s) : M0.max (F s) 0 = F (max s 0) := by
  have := max_F h pl_zero
  rw [F_zero] at this; exact this

/-! ### Sums -/
theorem low_num (s : Int) : span_low M0 (F s) 0 = F s := rfl
theorem low_err (x : Nat) : span_low M0 x 10 = F (-(I : Int)) := inf_lo
theorem high_num (s : Int) : span_high M0 (F s) 0 = F s := rfl
theorem high_err (x : Nat) : span_high M0 x 10 = F I := inf_hi

theorem add_low {l m : Int} (hl : pl l) (hm : pl m) : ∃ s, span_low M0 (round_Add M0 (F l) (F m) true).1 (round_Add M0 (F l) (F m) true).2 = F s ∧ round_Add.ok M0 (F l) (F m) true = true ∧ -(I : Int) ≤ s ∧ s < I ∧
    (nm l ∧ nm m → isD s (fun z => z ≤ Wi l + Wi m)) ∧ (¬ (nm l ∧ nm m) → s = -(I : Int)) := by
  by_cases h : nm l ∧ nm m
  · obtain ⟨s, h1, h2, h3⟩ := addD h.1 h.2
    refine ⟨s, by rw [h1]; rfl, h2, h3.lo, h3.hi, fun _ => h3, fun k => absurd h k⟩
  · obtain ⟨h1, h2⟩ := add_inf hl hm h true
    have := I_pos
    exact ⟨_, by rw [h1]; exact low_err _, h2, by omega, by omega, fun k => absurd k h, fun _ => rfl⟩
theorem add_high {l m : Int} (hl : pl l) (hm : pl m) : ∃ s, span_high M0 (round_Add M0 (F l) (F m) false).1 (round_Add M0 (F l) (F m) false).2 = F s ∧ round_Add.ok M0 (F l) (F m) false = true ∧ -(I : Int) < s ∧ s ≤ I ∧
    (nm l ∧ nm m → isU s (fun z => Wi l + Wi m ≤ z)) ∧ (¬ (nm l ∧ nm m) → s = (I : Int)) := by
  by_cases h : nm l ∧ nm m
  · obtain ⟨s, h1, h2, h3⟩ := addU h.1 h.2
    refine ⟨s, by rw [h1]; rfl, h2, h3.lo, h3.hi, fun _ => h3, fun k => absurd h k⟩
  · obtain ⟨h1, h2⟩ := add_inf hl hm h false
    have := I_pos
    exact ⟨_, by rw [h1]; exact high_err _, h2, by omega, by omega, fun k => absurd k h, fun _ => rfl⟩

/-- All of a sum. -/
theorem add_sv {a b : LSpan} {l h m k : Int} (sa : SV a l h) (sb : SV b m k) : ∃ s t, SV (span_Add M0 a b) s t ∧ span_Add.ok M0 a b = true ∧
    (nm l ∧ nm m → isD s (fun z => z ≤ Wi l + Wi m)) ∧ (¬ (nm l ∧ nm m) → s = -(I : Int)) ∧ (nm h ∧ nm k → isU t (fun z => Wi h + Wi k ≤ z)) ∧ (¬ (nm h ∧ nm k) → t = (I : Int)) := by
  obtain ⟨s, s1, s2, s3, s4, s5, s6⟩ := add_low sa.pl sb.pl
  obtain ⟨t, t1, t2, t3, t4, t5, t6⟩ := add_high sa.ph sb.ph
  refine ⟨s, t, ⟨?_, ?_, ?_, s3, s4, t3, t4⟩, ?_, s5, s6, t5, t6⟩
  · rw [← s1, ← sa.lo, ← sb.lo]; rfl
  · rw [← t1, ← sa.hi, ← sb.hi]; rfl
  · by_cases c1 : nm l ∧ nm m
    · by_cases c2 : nm h ∧ nm k
      · have h1 := Wi_le.2 sa.le
        have h2 := Wi_le.2 sb.le
        exact isD_le_isU (s5 c1) (t5 c2) fun x y hx hy => by omega
      · rw [t6 c2]; omega
    · rw [s6 c1]; omega
  · unfold span_Add.ok
    rw [sa.lo, sa.hi, sb.lo, sb.hi, s2, t2]; rfl
theorem add_ok {a b : LSpan} (ha : SVs a) (hb : SVs b) : span_Add.ok M0 a b = true := by
  obtain ⟨l, h, sa⟩ := ha
  obtain ⟨m, k, sb⟩ := hb
  obtain ⟨s, t, _, h1, _⟩ := add_sv sa sb
  exact h1

theorem add_ni {a b a' b' : LSpan} (ha : NI a a') (hb : NI b b') : NI (span_Add M0 a b) (span_Add M0 a' b') := by
  obtain ⟨l, h, l', h', sa, sa', a1, a2⟩ := ha
  obtain ⟨m, k, m', k', sb, sb', b1, b2⟩ := hb
  obtain ⟨s, t, q, _, d1, d2, u1, u2⟩ := add_sv sa sb
  obtain ⟨s', t', q', _, d1', d2', u1', u2'⟩ := add_sv sa' sb'
  refine ⟨s, t, s', t', q, q', ?_, ?_⟩
  · by_cases c : nm l' ∧ nm m'
    · have n1 : nm l := ⟨by have := c.1.1; omega, sa.b2⟩
      have n2 : nm m := ⟨by have := c.2.1; omega, sb.b2⟩
      have h1 := Wi_le.2 a1
      have h2 := Wi_le.2 b1
      exact (d1' c).mono (d1 ⟨n1, n2⟩) fun w hw => by omega
    · rw [d2' c]; exact q.b1
  · by_cases c : nm h' ∧ nm k'
    · have n1 : nm h := ⟨sa.b3, by have := c.1.2; omega⟩
      have n2 : nm k := ⟨sb.b3, by have := c.2.2; omega⟩
      have h1 := Wi_le.2 a2
      have h2 := Wi_le.2 b2
      exact (u1' c).mono (u1 ⟨n1, n2⟩) fun w hw => by omega
    · rw [u2' c]; exact q.b4

theorem pl_neg {s : Int} (h : pl s) : pl (-s) := ⟨by have := h.2; omega, by have := h.1; omega⟩
theorem neg_sv {a : LSpan} {l h : Int} (s : SV a l h) : SV (span_Neg M0 a) (-h) (-l) := by
  refine ⟨?_, ?_, ?_, ?_, ?_, ?_, ?_⟩
  · unfold span_Neg; dsimp only; rw [s.hi, neg_F s.ph]
  · unfold span_Neg; dsimp only; rw [s.lo, neg_F s.pl]
  · have := s.le; omega
  · have := s.b4; omega
  · have := s.b3; omega
  · have := s.b2; omega
  · have := s.b1; omega
theorem neg_ni {a a' : LSpan} (ha : NI a a') : NI (span_Neg M0 a) (span_Neg M0 a') := by
  obtain ⟨l, h, l', h', sa, sa', a1, a2⟩ := ha
  exact ⟨_, _, _, _, neg_sv sa, neg_sv sa', by omega, by omega⟩
theorem sub_ni {a b a' b' : LSpan} (ha : NI a a') (hb : NI b b') : NI (span_Sub M0 a b) (span_Sub M0 a' b') := add_ni ha (neg_ni hb)
theorem sub_ok {a b : LSpan} (ha : SVs a) (hb : SVs b) : span_Sub.ok M0 a b = true := by
  unfold span_Sub.ok
  rw [add_ok ha (by obtain ⟨l, h, s⟩ := hb; exact ⟨_, _, neg_sv s⟩)]; rfl

/-! ### Products -/
theorem corner_lo {l h m k x y : Int} (h1 : l ≤ x) (h2 : x ≤ h) (h3 : m ≤ y) (h4 : y ≤ k) : l * m ≤ x * y ∨ l * k ≤ x * y ∨ h * m ≤ x * y ∨ h * k ≤ x * y := by
  rcases Int.le_total 0 y with hy | hy
  · have e1 : l * y ≤ x * y := Int.mul_le_mul_of_nonneg_right h1 hy
    rcases Int.le_total 0 l with hl | hl
    · exact .inl (Int.le_trans (Int.mul_le_mul_of_nonneg_left h3 hl) e1)
    · exact .inr (.inl (Int.le_trans (Int.mul_le_mul_of_nonpos_left hl h4) e1))
  · have e1 : h * y ≤ x * y := Int.mul_le_mul_of_nonpos_right h2 hy
    rcases Int.le_total 0 h with hl | hl
    · exact .inr (.inr (.inl (Int.le_trans (Int.mul_le_mul_of_nonneg_left h3 hl) e1)))
    · exact .inr (.inr (.inr (Int.le_trans (Int.mul_le_mul_of_nonpos_left hl h4) e1)))
theorem corner_hi {l h m k x y : Int} (h1 : l ≤ x) (h2 : x ≤ h) (h3 : m ≤ y) (h4 : y ≤ k) : x * y ≤ l * m ∨ x * y ≤ l * k ∨ x * y ≤ h * m ∨ x * y ≤ h * k := by
  have := corner_lo (l := -h) (h := -l) (m := m) (k := k) (x := -x) (y := y) (by omega) (by omega) h3 h4
  simp only [Int.neg_mul] at this
  omega

/-- The least of four, the greatest of four, from an infinite one on. -/
theorem min4_F {a b c d : Int} {P1 P2 P3 P4 : Int → Prop} (ha : isD a P1) (hb : isD b P2) (hc : isD c P3) (hd : isD d P4) : M0.min (M0.min (M0.min (M0.min (math_Inf M0 1) (F a)) (F b)) (F c)) (F d) = F (min (min (min a b) c) d) := by
  have := I_pos
  have pa := ha.pl
  have pb := hb.pl
  have pc := hc.pl
  have pd := hd.pl
  have a2 := ha.hi
  have i1 : pl (I : Int) := ⟨by omega, by omega⟩
  unfold pl at *
  rw [inf_hi, min_F i1 pa, Int.min_eq_right (by omega), min_F pa pb, min_F ⟨by omega, by omega⟩ pc, min_F ⟨by omega, by omega⟩ pd]
theorem max4_F {a b c d : Int} {P1 P2 P3 P4 : Int → Prop} (ha : isU a P1) (hb : isU b P2) (hc : isU c P3) (hd : isU d P4) : M0.max (M0.max (M0.max (M0.max (math_Inf M0 (-1)) (F a)) (F b)) (F c)) (F d) = F (max (max (max a b) c) d) := by
  have := I_pos
  have pa := ha.pl
  have pb := hb.pl
  have pc := hc.pl
  have pd := hd.pl
  have a2 := ha.lo
  have i1 : pl (-(I : Int)) := ⟨by omega, by omega⟩
  unfold pl at *
  rw [inf_lo, max_F i1 pa, Int.max_eq_right (by omega), max_F pa pb, max_F ⟨by omega, by omega⟩ pc, max_F ⟨by omega, by omega⟩ pd]

def isZ (a : LSpan) : Bool := M0.eq a.lo 0 && (M0.eq a.hi 0 && true)
theorem isZ_sv {a : LSpan} {l h : Int} (s : SV a l h) : isZ a = decide (l = 0 ∧ h = 0) := by
  unfold isZ
  rw [s.lo, s.hi, F_eqz s.pl, F_eqz s.ph]
  by_cases h1 : l = 0 <;> by_cases h2 : h = 0 <;> simp [h1, h2]

/-- What is made of the four corners. -/
structure Four (D U : Int → Int → Int → Prop) (l h m k s t : Int) : Prop where
  d : ∃ d1 d2 d3 d4, isD d1 (D (Wi l) (Wi m)) ∧ isD d2 (D (Wi l) (Wi k)) ∧ isD d3 (D (Wi h) (Wi m)) ∧ isD d4 (D (Wi h) (Wi k)) ∧ s = min (min (min d1 d2) d3) d4
  u : ∃ u1 u2 u3 u4, isU u1 (U (Wi l) (Wi m)) ∧ isU u2 (U (Wi l) (Wi k)) ∧ isU u3 (U (Wi h) (Wi m)) ∧ isU u4 (U (Wi h) (Wi k)) ∧ t = max (max (max u1 u2) u3) u4

theorem Four.le {D U : Int → Int → Int → Prop} {l h m k s t : Int} (f : Four D U l h m k s t) (hDU : ∀ x y, D (Wi l) (Wi m) x → U (Wi l) (Wi m) y → x ≤ y) : s ≤ t := by
  obtain ⟨d1, d2, d3, d4, a1, _, _, _, rfl⟩ := f.d
  obtain ⟨u1, u2, u3, u4, b1, _, _, _, rfl⟩ := f.u
  have := isD_le_isU a1 b1 hDU
  omega
theorem Four.bounds {D U : Int → Int → Int → Prop} {l h m k s t : Int} (f : Four D U l h m k s t) : -(I : Int) ≤ s ∧ s < I ∧ -(I : Int) < t ∧ t ≤ I := by
  obtain ⟨d1, d2, d3, d4, a1, a2, a3, a4, rfl⟩ := f.d
  obtain ⟨u1, u2, u3, u4, b1, b2, b3, b4, rfl⟩ := f.u
  have := a1.lo; have := a2.lo; have := a3.lo; have := a4.lo
  have := a1.hi
  have := b1.lo
  have := b1.hi; have := b2.hi; have := b3.hi; have := b4.hi
  omega

theorem Four.lower {D U : Int → Int → Int → Prop} {l h m k s t : Int} (f : Four D U l h m k s t) {d : Int} {P : Int → Prop} (hd : isD d P)
    (hc : (∀ z, D (Wi l) (Wi m) z → P z) ∨ (∀ z, D (Wi l) (Wi k) z → P z) ∨ (∀ z, D (Wi h) (Wi m) z → P z) ∨ (∀ z, D (Wi h) (Wi k) z → P z)) : s ≤ d := by
  obtain ⟨d1, d2, d3, d4, a1, a2, a3, a4, rfl⟩ := f.d
  rcases hc with h1 | h1 | h1 | h1
  · have := a1.mono hd h1; omega
  · have := a2.mono hd h1; omega
  · have := a3.mono hd h1; omega
  · have := a4.mono hd h1; omega
theorem Four.upper {D U : Int → Int → Int → Prop} {l h m k s t : Int} (f : Four D U l h m k s t) {u : Int} {P : Int → Prop} (hu : isU u P)
    (hc : (∀ z, U (Wi l) (Wi m) z → P z) ∨ (∀ z, U (Wi l) (Wi k) z → P z) ∨ (∀ z, U (Wi h) (Wi m) z → P z) ∨ (∀ z, U (Wi h) (Wi k) z → P z)) : u ≤ t := by
  obtain ⟨d1, d2, d3, d4, a1, a2, a3, a4, rfl⟩ := f.u
  rcases hc with h1 | h1 | h1 | h1
  · have := a1.mono hu h1; omega
  · have := a2.mono hu h1; omega
  · have := a3.mono hu h1; omega
  · have := a4.mono hu h1; omega

/-- Corners of inner ones, by corners of outer ones. -/
theorem Four.mono {D U : Int → Int → Int → Prop} {l h m k s t l' h' m' k' s' t' : Int} (f : Four D U l h m k s t) (f' : Four D U l' h' m' k' s' t')
    (hD : ∀ x y, (x = Wi l ∨ x = Wi h) → (y = Wi m ∨ y = Wi k) → (∀ z, D (Wi l') (Wi m') z → D x y z) ∨ (∀ z, D (Wi l') (Wi k') z → D x y z) ∨ (∀ z, D (Wi h') (Wi m') z → D x y z) ∨ (∀ z, D (Wi h') (Wi k') z → D x y z))
    (hU : ∀ x y, (x = Wi l ∨ x = Wi h) → (y = Wi m ∨ y = Wi k) → (∀ z, U (Wi l') (Wi m') z → U x y z) ∨ (∀ z, U (Wi l') (Wi k') z → U x y z) ∨ (∀ z, U (Wi h') (Wi m') z → U x y z) ∨ (∀ z, U (Wi h') (Wi k') z → U x y z)) : s' ≤ s ∧ t ≤ t' := by
  constructor
  · obtain ⟨d1, d2, d3, d4, a1, a2, a3, a4, rfl⟩ := f.d
    have := f'.lower a1 (hD _ _ (.inl rfl) (.inl rfl))
    have := f'.lower a2 (hD _ _ (.inl rfl) (.inr rfl))
    have := f'.lower a3 (hD _ _ (.inr rfl) (.inl rfl))
    have := f'.lower a4 (hD _ _ (.inr rfl) (.inr rfl))
    omega
  · obtain ⟨d1, d2, d3, d4, a1, a2, a3, a4, rfl⟩ := f.u
    have := f'.upper a1 (hU _ _ (.inl rfl) (.inl rfl))
    have := f'.upper a2 (hU _ _ (.inl rfl) (.inr rfl))
    have := f'.upper a3 (hU _ _ (.inr rfl) (.inl rfl))
    have := f'.upper a4 (hU _ _ (.inr rfl) (.inr rfl))
    omega

def MD (x y z : Int) : Prop := z * C ≤ x * y
def MU (x y z : Int) : Prop := x * y ≤ z * C
theorem MDU {x y a b : Int} (h : MD x y a) (k : MU x y b) : a ≤ b := Int.le_of_mul_le_mul_right (Int.le_trans h k) C_pos

/-- All of a product. -/
theorem mul_sv {a b : LSpan} {l h m k : Int} (sa : SV a l h) (sb : SV b m k) : ∃ s t, SV (span_Mul M0 a b) s t ∧ span_Mul.ok M0 a b = true ∧
    ((l = 0 ∧ h = 0) ∨ (m = 0 ∧ k = 0) → s = 0 ∧ t = 0) ∧
    (¬ ((l = 0 ∧ h = 0) ∨ (m = 0 ∧ k = 0)) → ¬ ((nm l ∧ nm h) ∧ (nm m ∧ nm k)) → s = -(I : Int) ∧ t = I) ∧
    (¬ ((l = 0 ∧ h = 0) ∨ (m = 0 ∧ k = 0)) → (nm l ∧ nm h) ∧ (nm m ∧ nm k) → Four MD MU l h m k s t) := by
  have z1 := isZ_sv sa
  have z2 := isZ_sv sb
  unfold isZ at z1 z2
  by_cases c1 : l = 0 ∧ h = 0
  · refine ⟨0, 0, ?_, ?_, fun _ => ⟨rfl, rfl⟩, fun k => absurd (.inl c1) k, fun k => absurd (.inl c1) k⟩
    · unfold span_Mul; rw [z1, decide_eq_true c1]; exact zero_sv
    · unfold span_Mul.ok; rw [z1, decide_eq_true c1]; rfl
  · by_cases c2 : m = 0 ∧ k = 0
    · refine ⟨0, 0, ?_, ?_, fun _ => ⟨rfl, rfl⟩, fun k => absurd (.inr c2) k, fun k => absurd (.inr c2) k⟩
      · unfold span_Mul; rw [z1, decide_eq_false c1, z2, decide_eq_true c2]; exact zero_sv
      · unfold span_Mul.ok; rw [z1, decide_eq_false c1, z2, decide_eq_true c2]; rfl
    · have c : ¬ ((l = 0 ∧ h = 0) ∨ (m = 0 ∧ k = 0)) := fun hh => hh.elim c1 c2
      by_cases c3 : nm l ∧ nm h
      · by_cases c4 : nm m ∧ nm k
        · obtain ⟨d1, e1, o1, q1⟩ := mulD c3.1 c4.1
          obtain ⟨d2, e2, o2, q2⟩ := mulD c3.1 c4.2
          obtain ⟨d3, e3, o3, q3⟩ := mulD c3.2 c4.1
          obtain ⟨d4, e4, o4, q4⟩ := mulD c3.2 c4.2
          obtain ⟨u1, f1, p1, r1⟩ := mulU c3.1 c4.1
          obtain ⟨u2, f2, p2, r2⟩ := mulU c3.1 c4.2
          obtain ⟨u3, f3, p3, r3⟩ := mulU c3.2 c4.1
          obtain ⟨u4, f4, p4, r4⟩ := mulU c3.2 c4.2
          have four : Four MD MU l h m k (min (min (min d1 d2) d3) d4) (max (max (max u1 u2) u3) u4) := ⟨⟨d1, d2, d3, d4, q1, q2, q3, q4, rfl⟩, ⟨u1, u2, u3, u4, r1, r2, r3, r4, rfl⟩⟩
          obtain ⟨b1, b2, b3, b4⟩ := four.bounds
          refine ⟨_, _, ⟨?_, ?_, four.le fun x y => MDU, b1, b2, b3, b4⟩, ?_, fun k => absurd k c, fun _ k => absurd ⟨c3, c4⟩ k, fun _ _ => four⟩
          · unfold span_Mul
            rw [z1, decide_eq_false c1, z2, decide_eq_false c2, sa.wide.1, decide_eq_false (by simp [c3]), sb.wide.1, decide_eq_false (by simp [c4])]
            simp only [cond_false]
            rw [sa.lo, sa.hi, sb.lo, sb.hi, e1, e2, e3, e4]
            exact min4_F q1 q2 q3 q4
          · unfold span_Mul
            rw [z1, decide_eq_false c1, z2, decide_eq_false c2, sa.wide.1, decide_eq_false (by simp [c3]), sb.wide.1, decide_eq_false (by simp [c4])]
            simp only [cond_false]
            rw [sa.lo, sa.hi, sb.lo, sb.hi, f1, f2, f3, f4]
            exact max4_F r1 r2 r3 r4
          · unfold span_Mul.ok
            rw [z1, decide_eq_false c1, z2, decide_eq_false c2, sa.wide.1, sa.wide.2, decide_eq_false (by simp [c3]), sb.wide.1, sb.wide.2, decide_eq_false (by simp [c4])]
            simp only [cond_false, cond_true]
            rw [sa.lo, sa.hi, sb.lo, sb.hi, o1, o2, o3, o4, p1, p2, p3, p4]; rfl
        · refine ⟨_, _, ?_, ?_, fun k => absurd k c, fun _ _ => ⟨rfl, rfl⟩, fun _ k => absurd k.2 c4⟩
          · unfold span_Mul; rw [z1, decide_eq_false c1, z2, decide_eq_false c2, sa.wide.1, decide_eq_false (by simp [c3]), sb.wide.1, decide_eq_true c4]; exact all_sv
          · unfold span_Mul.ok; rw [z1, decide_eq_false c1, z2, decide_eq_false c2, sa.wide.1, sa.wide.2, decide_eq_false (by simp [c3]), sb.wide.1, sb.wide.2, decide_eq_true c4]; rfl
      · refine ⟨_, _, ?_, ?_, fun k => absurd k c, fun _ _ => ⟨rfl, rfl⟩, fun _ k => absurd k.1 c3⟩
        · unfold span_Mul; rw [z1, decide_eq_false c1, z2, decide_eq_false c2, sa.wide.1, decide_eq_true c3]; exact all_sv
        · unfold span_Mul.ok; rw [z1, decide_eq_false c1, z2, decide_eq_false c2, sa.wide.1, sa.wide.2, decide_eq_true c3]; rfl
theorem mul_ok {a b : LSpan} (ha : SVs a) (hb : SVs b) : span_Mul.ok M0 a b = true := by
  obtain ⟨l, h, sa⟩ := ha
  obtain ⟨m, k, sb⟩ := hb
  obtain ⟨s, t, _, h1, _⟩ := mul_sv sa sb
  exact h1

theorem mul_ni {a b a' b' : LSpan} (ha : NI a a') (hb : NI b b') : NI (span_Mul M0 a b) (span_Mul M0 a' b') := by
  obtain ⟨l, h, l', h', sa, sa', a1, a2⟩ := ha
  obtain ⟨m, k, m', k', sb, sb', b1, b2⟩ := hb
  obtain ⟨s, t, q, _, z, w, f⟩ := mul_sv sa sb
  obtain ⟨s', t', q', _, z', w', f'⟩ := mul_sv sa' sb'
  refine ⟨s, t, s', t', q, q', ?_⟩
  have e1 := sa.le; have e2 := sb.le
  by_cases c' : (l' = 0 ∧ h' = 0) ∨ (m' = 0 ∧ k' = 0)
  · obtain ⟨rfl, rfl⟩ := z' c'
    have : (l = 0 ∧ h = 0) ∨ (m = 0 ∧ k = 0) := by omega
    obtain ⟨rfl, rfl⟩ := z this
    omega
  · by_cases n' : (nm l' ∧ nm h') ∧ (nm m' ∧ nm k')
    · have F' := f' c' n'
      have i1 := Wi_le.2 a1
      have i2 := Wi_le.2 a2
      have i3 := Wi_le.2 b1
      have i4 := Wi_le.2 b2
      have i5 := Wi_le.2 e1
      have i6 := Wi_le.2 e2
      by_cases c : (l = 0 ∧ h = 0) ∨ (m = 0 ∧ k = 0)
      · obtain ⟨rfl, rfl⟩ := z c
        have hz : Wi l * Wi m = 0 := by
          rcases c with ⟨rfl, _⟩ | ⟨rfl, _⟩
          · rw [Wi_zero, Int.zero_mul]
          · rw [Wi_zero, Int.mul_zero]
        have hI := I_pos
        have zd : isD 0 (fun z => z * C ≤ 0) := ⟨by omega, by omega, .inr (by rw [Wi_zero, Int.zero_mul]; omega), fun t ht _ hP => by
          have := Int.mul_pos (Wi_pos.2 ht) C_pos
          omega⟩
        have zu : isU 0 (fun z => 0 ≤ z * C) := ⟨by omega, by omega, .inr (by rw [Wi_zero, Int.zero_mul]; omega), fun t _ ht hP => by
          have := Int.mul_neg_of_neg_of_pos (Wi_neg_iff.2 ht) C_pos
          omega⟩
        constructor
        · have := corner_lo (x := Wi l) (y := Wi m) i1 (Int.le_trans i5 i2) i3 (Int.le_trans i6 i4)
          rw [hz] at this
          refine F'.lower zd ?_
          rcases this with h1 | h1 | h1 | h1
          · exact .inl fun z hz => Int.le_trans hz h1
          · exact .inr (.inl fun z hz => Int.le_trans hz h1)
          · exact .inr (.inr (.inl fun z hz => Int.le_trans hz h1))
          · exact .inr (.inr (.inr fun z hz => Int.le_trans hz h1))
        · have := corner_hi (x := Wi l) (y := Wi m) i1 (Int.le_trans i5 i2) i3 (Int.le_trans i6 i4)
          rw [hz] at this
          refine F'.upper zu ?_
          rcases this with h1 | h1 | h1 | h1
          · exact .inl fun z hz => Int.le_trans h1 hz
          · exact .inr (.inl fun z hz => Int.le_trans h1 hz)
          · exact .inr (.inr (.inl fun z hz => Int.le_trans h1 hz))
          · exact .inr (.inr (.inr fun z hz => Int.le_trans h1 hz))
      · have n : (nm l ∧ nm h) ∧ (nm m ∧ nm k) := by
          obtain ⟨⟨x1, x2⟩, x3, x4⟩ := n'
          unfold nm at *
          omega
        refine (f c n).mono F' (fun x y hx hy => ?_) (fun x y hx hy => ?_)
        · have := corner_lo (x := x) (y := y) (l := Wi l') (h := Wi h') (m := Wi m') (k := Wi k') (by omega) (by omega) (by omega) (by omega)
          rcases this with h1 | h1 | h1 | h1
          · exact .inl fun z hz => Int.le_trans hz h1
          · exact .inr (.inl fun z hz => Int.le_trans hz h1)
          · exact .inr (.inr (.inl fun z hz => Int.le_trans hz h1))
          · exact .inr (.inr (.inr fun z hz => Int.le_trans hz h1))
        · have := corner_hi (x := x) (y := y) (l := Wi l') (h := Wi h') (m := Wi m') (k := Wi k') (by omega) (by omega) (by omega) (by omega)
          rcases this with h1 | h1 | h1 | h1
          · exact .inl fun z hz => Int.le_trans h1 hz
          · exact .inr (.inl fun z hz => Int.le_trans h1 hz)
          · exact .inr (.inr (.inl fun z hz => Int.le_trans h1 hz))
          · exact .inr (.inr (.inr fun z hz => Int.le_trans h1 hz))
    · obtain ⟨rfl, rfl⟩ := w' c' n'
      exact ⟨q.b1, q.b4⟩

end Go.Lan
