/- Sums of floats, rounded down and up. -/
import Derived.Test.YtpgjihkaocahbaaMl
namespace Go.Lan

attribute [local irreducible] B

/-- Two exact numbers, brought to one power, put together. -/
theorem merge_tells {na nb mb : Bool} {A C g d0 : Nat} {e e2 : Int} (hA : 2 ^ 125 ≤ A) (hA2 : A < 2 ^ 126) (hC : C < 2 ^ 126) (hg : (g : Int) = e + 1200) (he : e < 4000) (hd : d0 < 2 ^ g) (hm : mb = true ↔ 0 < d0) (hmC : mb = true → C < 2 ^ 53) {S : Int}
    (hS : S * ((2 ^ 126 : Nat) : Int) = sg na (A * 2 ^ g) + sg nb (C * 2 ^ g + d0)) : Tells (mergeX (ex na A e false) (ex nb C e2 mb)) S ∧ mergeX.ok (ex na A e false) (ex nb C e2 mb) = true := by
  have hm4 : m64 * m64 = 2 ^ 128 := by rw [m64_eq, ← Nat.pow_add]
  have hp := Nat.two_pow_pos g
  have c0 : (0 : Int) < ((2 ^ 126 : Nat) : Int) := by exact_mod_cast Nat.two_pow_pos 126
  have p1 : (2 : Nat) ^ 128 = 2 ^ 126 * 4 := by decide
  have p2 : (2 : Nat) ^ 126 = 2 ^ 125 * 2 := by decide
  have p3 : (2 : Nat) ^ 53 * 4 ≤ 2 ^ 125 := by decide
  -- the sum's sign and size
  have fin : ∀ (neg : Bool) (N d : Nat), S * ((2 ^ 126 : Nat) : Int) = sg neg (N * 2 ^ g + d) → S = sg neg S.natAbs ∧ S.natAbs * 2 ^ 126 = N * 2 ^ g + d := by
    intro neg N d h
    have h2 : S.natAbs * 2 ^ 126 = N * 2 ^ g + d := by
      have := congrArg Int.natAbs h
      rw [Int.natAbs_mul, sg_abs, Int.natAbs_natCast] at this
      exact this
    refine ⟨?_, h2⟩
    cases neg
    · rw [sgf] at h ⊢
      rcases Int.lt_or_le S 0 with h3 | h3
      · have := Int.mul_neg_of_neg_of_pos h3 c0
        omega
      · omega
    · rw [sgt] at h ⊢
      rcases Int.lt_or_le 0 S with h3 | h3
      · have := Int.mul_pos h3 c0
        omega
      · omega
  by_cases hn : na = nb
  · subst hn
    obtain ⟨a1, a2⟩ := add_ex (n := na) (mb := mb) (A := A) (C := C) (by rw [hm4]; omega) e e2
    refine ⟨?_, a2⟩
    rw [a1]
    have h1 : S * ((2 ^ 126 : Nat) : Int) = sg na ((A + C) * 2 ^ g + d0) := by
      rw [hS, Nat.add_mul]
      cases na
      · simp only [sgf]; omega
      · simp only [sgt]; omega
    obtain ⟨f1, f2⟩ := fin na (A + C) d0 h1
    exact ⟨na, A + C, g, d0, e, mb, rfl, by rw [hm4]; omega, hg, he, f1, f2, hd, hm, fun _ => lt_blen.2 (by omega)⟩
  · obtain ⟨a1, a2, a3⟩ := diff_ex (mb := mb) hn (A := A) (C := C) (by rw [hm4]; omega) (by rw [hm4]; omega) e e2
    refine ⟨?_, a3⟩
    have hnb : nb = !na := by cases na <;> cases nb <;> simp_all
    subst hnb
    cases mb
    · have hd0 : d0 = 0 := by
        rcases Nat.eq_zero_or_pos d0 with h4 | h4
        · exact h4
        · have := hm.2 h4; cases this
      subst hd0
      simp only [Bool.toNat_false, Nat.add_zero, Nat.sub_zero] at a1
      rcases Nat.lt_or_ge A C with h1 | h1
      · rw [a2 rfl h1]
        have h2 : A * 2 ^ g ≤ C * 2 ^ g := Nat.mul_le_mul_right _ (by omega)
        have h3 : S * ((2 ^ 126 : Nat) : Int) = sg (!na) ((C - A) * 2 ^ g + 0) := by
          rw [hS, Nat.sub_mul]
          cases na
          · simp only [sgf, Bool.not_false, sgt]; omega
          · simp only [sgf, Bool.not_true, sgt]; omega
        obtain ⟨f1, f2⟩ := fin (!na) (C - A) 0 h3
        exact ⟨!na, C - A, g, 0, e, false, rfl, by rw [hm4]; omega, hg, he, f1, f2, hp, by simp, by simp⟩
      · rw [a1 h1]
        have h2 : C * 2 ^ g ≤ A * 2 ^ g := Nat.mul_le_mul_right _ (by omega)
        have h3 : S * ((2 ^ 126 : Nat) : Int) = sg na ((A - C) * 2 ^ g + 0) := by
          rw [hS, Nat.sub_mul]
          cases na
          · simp only [sgf, Bool.not_false, sgt]; omega
          · simp only [sgf, Bool.not_true, sgt]; omega
        obtain ⟨f1, f2⟩ := fin na (A - C) 0 h3
        exact ⟨na, A - C, g, 0, e, false, rfl, by rw [hm4]; omega, hg, he, f1, f2, hp, by simp, by simp⟩
    · have hd0 := hm.1 rfl
      have hc := hmC rfl
      simp only [Bool.toNat_true] at a1
      rw [a1 (by omega)]
      have h2 : (C + 1) * 2 ^ g ≤ A * 2 ^ g := Nat.mul_le_mul_right _ (by omega)
      have h3 : S * ((2 ^ 126 : Nat) : Int) = sg na ((A - C - 1) * 2 ^ g + (2 ^ g - d0)) := by
        rw [hS, Nat.sub_mul, Nat.sub_mul, Nat.one_mul]
        rw [Nat.add_mul, Nat.one_mul] at h2
        cases na
        · simp only [sgf, Bool.not_false, sgt]; omega
        · simp only [sgf, Bool.not_true, sgt]; omega
      obtain ⟨f1, f2⟩ := fin na (A - C - 1) (2 ^ g - d0) h3
      exact ⟨na, A - C - 1, g, 2 ^ g - d0, e, true, rfl, by rw [hm4]; omega, hg, he, f1, f2, by omega, ⟨fun _ => by omega, fun _ => rfl⟩, fun _ => lt_blen.2 (by omega)⟩


theorem align_tells {na nb : Bool} {A C x y : Nat} (hA0 : A ≠ 0) (hA : A < 2 * B) (hC : C < 2 * B) (hx : x < 2100) (hy : y < 2100) (hlen : y + blen C ≤ x + blen A) :
    Tells (alignX (ex na A ((x : Int) - 1074) false) (ex nb C ((y : Int) - 1074) false)) (sg na (A * 2 ^ x) + sg nb (C * 2 ^ y)) ∧ alignX.ok (ex na A ((x : Int) - 1074) false) (ex nb C ((y : Int) - 1074) false) = true := by
  have hB := B_eq
  have hm := hm64
  have hm4 : m64 * m64 = 2 ^ 128 := by rw [m64_eq, ← Nat.pow_add]
  have hbA : blen A ≤ 53 := blen_le.2 (by omega)
  have hbC : blen C ≤ 53 := blen_le.2 (by omega)
  have hbA0 : 1 ≤ blen A := lt_blen.2 (by omega)
  have hmm : m64 ≤ m64 * m64 := Nat.le_mul_of_pos_left _ (by omega)
  have hAm : A < m64 * m64 := by omega
  have hCm : C < m64 * m64 := by omega
  obtain ⟨sh, hsh⟩ : ∃ sh : Nat, sh + blen A = 126 := ⟨126 - blen A, by omega⟩
  obtain ⟨l1, l2⟩ := length_ex na hAm ((x : Int) - 1074) false
  have hn : IntKind.i64.wrap (126 - round_exact_length M0 (ex na A ((x : Int) - 1074) false)) = (sh : Int) := by
    rw [l1, i_in (by omega)]; omega
  have hA2l : blen (A * 2 ^ sh) = 126 := by rw [blen_mul hA0]; omega
  have hA2a : 2 ^ 125 ≤ A * 2 ^ sh := lt_blen.1 (by omega)
  have hA2b : A * 2 ^ sh < 2 ^ 126 := blen_le.1 (by omega)
  have p1 : (2 : Nat) ^ 128 = 2 ^ 126 * 4 := by decide
  obtain ⟨q1, q2⟩ := left_ex na (N := A) (n := sh) (by rw [hm4]; omega) (by omega) ((x : Int) - 1074) (by omega) false
  obtain ⟨g, hg⟩ : ∃ g : Nat, (g : Int) = (x : Int) - 1074 - sh + 1200 := ⟨x + 126 - sh, by omega⟩
  have hAg : A * 2 ^ x * 2 ^ 126 = A * 2 ^ sh * 2 ^ g := by rw [Nat.mul_assoc, ← Nat.pow_add, Nat.mul_assoc, ← Nat.pow_add, show x + 126 = sh + g by omega]
  unfold alignX alignX.ok
  dsimp only
  rw [hn, l2, q1, q2, show (ex na (A * 2 ^ sh) ((x : Int) - 1074 - sh) false).e = (x : Int) - 1074 - sh from rfl, show (ex nb C ((y : Int) - 1074) false).e = (y : Int) - 1074 from rfl]
  have scaled : ∀ (u v : Nat) (w : Nat), w = v * 2 ^ 126 → (sg na u + sg nb v) * ((2 ^ 126 : Nat) : Int) = sg na (u * 2 ^ 126) + sg nb w := by
    intro u v w hw
    rw [hw, sg_mul, sg_mul, Int.add_mul]
  by_cases hgt : (y : Int) - 1074 > (x : Int) - 1074 - sh
  · have d1 : decide ((y : Int) - 1074 > (x : Int) - 1074 - sh) = true := decide_eq_true hgt
    rw [d1, cond_true, cond_true, cond_true, cond_true]
    obtain ⟨k, hk⟩ : ∃ k : Nat, (k : Int) = (y : Int) - 1074 - ((x : Int) - 1074 - sh) := ⟨y + sh - x, by omega⟩
    rw [i_in (n := (y : Int) - 1074 - ((x : Int) - 1074 - sh)) (by omega), ← hk]
    have hC2 : C * 2 ^ k < 2 ^ 126 := by
      by_cases h0 : C = 0
      · rw [h0, Nat.zero_mul]; exact Nat.two_pow_pos _
      · exact blen_le.1 (by rw [blen_mul h0]; omega)
    obtain ⟨r1, r2⟩ := left_ex nb (N := C) (n := k) (by rw [hm4]; omega) (by omega) ((y : Int) - 1074) (by omega) false
    rw [r1, r2, cond_true]
    have hCg : C * 2 ^ k * 2 ^ g + 0 = C * 2 ^ y * 2 ^ 126 := by rw [Nat.add_zero, Nat.mul_assoc, ← Nat.pow_add, Nat.mul_assoc, ← Nat.pow_add, show k + g = y + 126 by omega]
    exact merge_tells (d0 := 0) hA2a hA2b hC2 hg (by omega) (Nat.two_pow_pos g) (by simp) (by simp) (by rw [scaled _ _ _ hCg, hAg])
  · have d1 : decide ((y : Int) - 1074 > (x : Int) - 1074 - sh) = false := decide_eq_false hgt
    rw [d1, cond_false, cond_true, cond_true, cond_false]
    obtain ⟨k, hk⟩ : ∃ k : Nat, (k : Int) = (x : Int) - 1074 - sh - ((y : Int) - 1074) := ⟨x - sh - y, by omega⟩
    rw [i_in (n := (x : Int) - 1074 - sh - ((y : Int) - 1074)) (by omega), ← hk]
    have hC3 : C / 2 ^ k ≤ C := Nat.div_le_self _ _
    have hright : ∃ e2 : Int, round_exact_right M0 (ex nb C ((y : Int) - 1074) false) (k : Int) = ex nb (C / 2 ^ k) e2 (decide (C % 2 ^ k ≠ 0)) ∧ round_exact_right.ok M0 (ex nb C ((y : Int) - 1074) false) (k : Int) = true := by
      rcases Nat.eq_zero_or_pos k with h0 | h0
      · subst h0
        obtain ⟨r1, r2⟩ := right_zero nb C ((y : Int) - 1074) (by omega) false
        have e0 : ex nb (C / 2 ^ 0) ((y : Int) - 1074) (decide (C % 2 ^ 0 ≠ 0)) = ex nb C ((y : Int) - 1074) false := by
          rw [Nat.pow_zero, Nat.div_one, Nat.mod_one]
          rfl
        exact ⟨(y : Int) - 1074, by rw [e0]; exact r1, r2⟩
      · obtain ⟨r1, r2⟩ := right_ex nb hCm h0 (by omega) ((y : Int) - 1074) (by omega) false
        exact ⟨_, r1.trans (by rw [Bool.false_or]), r2⟩
    obtain ⟨e2, r1, r2⟩ := hright
    rw [r1, r2, cond_true]
    have hpk := Nat.two_pow_pos k
    have hmod := Nat.mod_lt C hpk
    have hkg : k ≤ g := by omega
    have hpg : 2 ^ g = 2 ^ k * 2 ^ (g - k) := by rw [← Nat.pow_add, show k + (g - k) = g by omega]
    have hp2 := Nat.two_pow_pos (g - k)
    have hCg : C / 2 ^ k * 2 ^ g + C % 2 ^ k * 2 ^ (g - k) = C * 2 ^ y * 2 ^ 126 := by
      rw [hpg, ← Nat.mul_assoc, ← Nat.add_mul, Nat.mul_assoc C, ← Nat.pow_add, show y + 126 = g - k by omega, Nat.mul_comm (C / 2 ^ k), Nat.div_add_mod]
    have p2 : (2 : Nat) ^ 53 < 2 ^ 126 := by decide
    refine merge_tells (d0 := C % 2 ^ k * 2 ^ (g - k)) hA2a hA2b (by omega) hg (by omega) ?_ ?_ (fun _ => by omega) (by rw [scaled _ _ _ hCg, hAg])
    · rw [hpg]; exact Nat.mul_lt_mul_of_pos_right hmod hp2
    · rw [decide_eq_true_eq]
      constructor
      · intro h; exact Nat.mul_pos (by omega) hp2
      · intro h h0; rw [h0, Nat.zero_mul] at h; omega

end Go.Lan
