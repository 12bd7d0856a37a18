/- round.Add. -/
import Derived.Test.YtpgjihkaocahbaaMm
namespace Go.Lan

attribute [local irreducible] B

theorem one_tells {n : Bool} {m e : Nat} (hm : m < 2 * B) (he : e < 2100) : Tells (ex n m ((e : Int) - 1074) false) (sg n (m * 2 ^ e)) := by
  have hB := B_val
  have h6 := hm64
  refine ⟨n, m, e + 126, 0, (e : Int) - 1074, false, rfl, ?_, by omega, by omega, ?_, ?_, Nat.two_pow_pos _, by simp, by simp⟩
  · have : m64 ≤ m64 * m64 := Nat.le_mul_of_pos_left _ (by omega)
    omega
  · rw [sg_abs]
  · rw [sg_abs, Nat.add_zero, Nat.mul_assoc, ← Nat.pow_add]

theorem sum_tells {n1 n2 : Bool} {m1 m2 e1 e2 : Nat} (h1 : m1 < 2 * B) (h2 : m2 < 2 * B) (k1 : e1 < 2046) (k2 : e2 < 2046) :
    Tells (round_sum M0 (ex n1 m1 ((e1 : Int) - 1074) false) (ex n2 m2 ((e2 : Int) - 1074) false)) (sg n1 (m1 * 2 ^ e1) + sg n2 (m2 * 2 ^ e2)) ∧
    round_sum.ok M0 (ex n1 m1 ((e1 : Int) - 1074) false) (ex n2 m2 ((e2 : Int) - 1074) false) = true := by
  have hB := B_val
  have hB2 := B_eq
  have h6 := hm64
  have hmm : m64 ≤ m64 * m64 := Nat.le_mul_of_pos_left _ (by omega)
  rw [sumX_eq, sumX_ok]
  unfold sumX sumX.ok stepX stepX.ok
  rw [zero_ex, zero_ex]
  by_cases z1 : m1 = 0
  · subst z1
    rw [decide_eq_true rfl]
    simp only [cond_true]
    rw [Nat.zero_mul, sg_zero, Int.zero_add]
    exact ⟨one_tells h2 (by omega), trivial⟩
  · by_cases z2 : m2 = 0
    · subst z2
      rw [decide_eq_false z1, decide_eq_true rfl]
      simp only [cond_true, cond_false, Bool.not_true]
      rw [Nat.zero_mul, sg_zero, Int.add_zero]
      exact ⟨one_tells h1 (by omega), trivial⟩
    · obtain ⟨l1, l2⟩ := length_ex n1 (show m1 < m64 * m64 by omega) ((e1 : Int) - 1074) false
      obtain ⟨l3, l4⟩ := length_ex n2 (show m2 < m64 * m64 by omega) ((e2 : Int) - 1074) false
      have b1 : blen m1 ≤ 53 := blen_le.2 (by omega)
      have b2 : blen m2 ≤ 53 := blen_le.2 (by omega)
      rw [decide_eq_false z1, decide_eq_false z2, l1, l2, l3, l4, show (ex n1 m1 ((e1 : Int) - 1074) false).e = (e1 : Int) - 1074 from rfl, show (ex n2 m2 ((e2 : Int) - 1074) false).e = (e2 : Int) - 1074 from rfl,
        i_in (n := (e1 : Int) - 1074 + (blen m1 : Nat)) (by omega), i_in (n := (e2 : Int) - 1074 + (blen m2 : Nat)) (by omega)]
      simp only [Bool.not_false, cond_true, cond_false]
      by_cases hlt : (e1 : Int) - 1074 + (blen m1 : Nat) < (e2 : Int) - 1074 + (blen m2 : Nat)
      · rw [decide_eq_true hlt, cond_true, cond_true, Int.add_comm (sg n1 _)]
        exact align_tells z2 h2 h1 (by omega) (by omega) (by omega)
      · rw [decide_eq_false hlt, cond_false, cond_false]
        exact align_tells z1 h1 h2 (by omega) (by omega) (by omega)

theorem add_spec {n1 n2 : Bool} {r1 r2 : Nat} (h1 : r1 < I) (h2 : r2 < I) :
    (∃ s, round_Add M0 (wd n1 r1) (wd n2 r2) true = (F s, 0) ∧ round_Add.ok M0 (wd n1 r1) (wd n2 r2) true = true ∧ isD s (fun z => z ≤ sg n1 (V r1) + sg n2 (V r2))) ∧
    (∃ s, round_Add M0 (wd n1 r1) (wd n2 r2) false = (F s, 0) ∧ round_Add.ok M0 (wd n1 r1) (wd n2 r2) false = true ∧ isU s (fun z => sg n1 (V r1) + sg n2 (V r2) ≤ z)) := by
  obtain ⟨m1, e1, s1, v1, _, l1, _, k1⟩ := split_wd (neg := n1) h1
  obtain ⟨m2, e2, s2, v2, _, l2, _, k2⟩ := split_wd (neg := n2) h2
  have htwo : round_two M0 (wd n1 r1) (wd n2 r2) = true := by unfold round_two; rw [number_wd h1, number_wd h2]; rfl
  obtain ⟨t1, t2⟩ := sum_tells (n1 := n1) (n2 := n2) l1 l2 k1 k2
  rw [← v1, ← v2] at t1
  have eq1 : ∀ down, round_Add M0 (wd n1 r1) (wd n2 r2) down = (round_exact_to M0 (round_sum M0 (ex n1 m1 ((e1 : Int) - 1074) false) (ex n2 m2 ((e2 : Int) - 1074) false)) down, 0) := by
    intro down
    unfold round_Add
    rw [htwo, s1, s2]
    rfl
  have eq2 : ∀ down, round_exact_to.ok M0 (round_sum M0 (ex n1 m1 ((e1 : Int) - 1074) false) (ex n2 m2 ((e2 : Int) - 1074) false)) down = true → round_Add.ok M0 (wd n1 r1) (wd n2 r2) down = true := by
    intro down h
    unfold round_Add.ok
    dsimp only
    rw [htwo, twook_wd (Nat.le_of_lt h1) (Nat.le_of_lt h2), splitok_wd (Nat.le_of_lt h1), splitok_wd (Nat.le_of_lt h2), s1, s2, t2, h]
    rfl
  obtain ⟨⟨s, a1, a2, a3⟩, ⟨t, b1, b2, b3⟩⟩ := tells_to t1
  exact ⟨⟨s, by rw [eq1, a1], eq2 _ a2, a3⟩, ⟨t, by rw [eq1, b1], eq2 _ b2, b3⟩⟩

end Go.Lan
