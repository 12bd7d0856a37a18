/- Products, rounded down and up. -/
import Derived.Test.YtpgjihkaocahbaaMi
namespace Go.Lan

attribute [local irreducible] B

theorem splitok_wd {neg : Bool} {r : Nat} (h : r ≤ I) : round_split.ok M0 (wd neg r) = true := by
  unfold round_split.ok
  rw [bitsok_wd h]; rfl
theorem twook_wd {n1 n2 : Bool} {r1 r2 : Nat} (h1 : r1 ≤ I) (h2 : r2 ≤ I) : round_two.ok M0 (wd n1 r1) (wd n2 r2) = true := by
  unfold round_two.ok
  rw [numberok_wd h1, numberok_wd h2]
  cases round_Number M0 (wd n1 r1) <;> rfl

theorem scale_le {k N E c n g : Nat} (h : E + c = n + g) : (k * 2 ^ E * 2 ^ c ≤ N * 2 ^ g ↔ k * 2 ^ n ≤ N) ∧ (N * 2 ^ g ≤ k * 2 ^ E * 2 ^ c ↔ N ≤ k * 2 ^ n) := by
  have e : k * 2 ^ E * 2 ^ c = k * 2 ^ n * 2 ^ g := by rw [Nat.mul_assoc, ← Nat.pow_add, h, Nat.pow_add, ← Nat.mul_assoc]
  rw [e]
  have hp := Nat.two_pow_pos g
  exact ⟨⟨fun h => Nat.le_of_mul_le_mul_right h hp, fun h => Nat.mul_le_mul_right _ h⟩, ⟨fun h => Nat.le_of_mul_le_mul_right h hp, fun h => Nat.mul_le_mul_right _ h⟩⟩

theorem sg_mul2 (n1 n2 : Bool) (a b : Nat) : sg n1 a * sg n2 b = sg (!(n1 == n2)) (a * b) := by
  cases n1 <;> cases n2 <;> simp [sg, Int.neg_mul, Int.mul_neg]

/-- An exact number without a rest, over 2 ^ c units. -/
theorem to_frac {neg : Bool} {N : Nat} (hN : N < m64 * m64) {e : Int} (he : -5000 < e ∧ e < 5000) {c g G : Nat} (hc : (g : Int) - c = e + 1074) (hG : G = N * 2 ^ g) :
    (∃ s, round_exact_to M0 (ex neg N e false) true = F s ∧ round_exact_to.ok M0 (ex neg N e false) true = true ∧ isD s (fun z => z * ((2 ^ c : Nat) : Int) ≤ sg neg G)) ∧
    (∃ s, round_exact_to M0 (ex neg N e false) false = F s ∧ round_exact_to.ok M0 (ex neg N e false) false = true ∧ isU s (fun z => sg neg G ≤ z * ((2 ^ c : Nat) : Int))) := by
  subst hG
  have hp : (0 : Int) < ((2 ^ c : Nat) : Int) := by exact_mod_cast Nat.two_pow_pos c
  have nz : ∀ a b : Nat, (((a : Nat) : Int) * ((2 ^ c : Nat) : Int) ≤ ((b : Nat) : Int) ↔ a * 2 ^ c ≤ b) ∧ (((b : Nat) : Int) ≤ ((a : Nat) : Int) * ((2 ^ c : Nat) : Int) ↔ b ≤ a * 2 ^ c) := by
    intro a b
    rw [← Int.natCast_mul, Int.ofNat_le, Int.ofNat_le]
    exact ⟨Iff.rfl, Iff.rfl⟩
  have sides : ∀ z : Nat, ((if neg then sg neg (N * 2 ^ g) ≤ -(z : Int) * ((2 ^ c : Nat) : Int) else (z : Int) * ((2 ^ c : Nat) : Int) ≤ sg neg (N * 2 ^ g)) ↔ z * 2 ^ c ≤ N * 2 ^ g) ∧
      ((if neg then -(z : Int) * ((2 ^ c : Nat) : Int) ≤ sg neg (N * 2 ^ g) else sg neg (N * 2 ^ g) ≤ (z : Int) * ((2 ^ c : Nat) : Int)) ↔ N * 2 ^ g ≤ z * 2 ^ c) := by
    intro z
    have := nz z (N * 2 ^ g)
    cases neg
    · rw [sgf]
      simp only [Bool.false_eq_true, if_false]
      exact this
    · rw [sgt]
      simp only [if_true]
      rw [Int.neg_mul, Int.neg_le_neg_iff, Int.neg_le_neg_iff]
      exact this
  refine to_signed hN he (by simp) (P := fun z => z * ((2 ^ c : Nat) : Int) ≤ sg neg (N * 2 ^ g)) (Q := fun z => sg neg (N * 2 ^ g) ≤ z * ((2 ^ c : Nat) : Int)) (fun a b h1 h2 => ?_) (fun a b h1 h2 => ?_) (fun hn z hz h1 => ?_) (fun hn z hz h1 => ?_) (fun k E n hE => ?_) (fun _ E hE z => ?_)
  · exact Int.le_trans (Int.mul_le_mul_of_nonneg_right h1 (Int.le_of_lt hp)) h2
  · exact Int.le_trans h2 (Int.mul_le_mul_of_nonneg_right h1 (Int.le_of_lt hp))
  · subst hn
    rw [sgt] at h1
    have := Int.mul_pos hz hp
    omega
  · subst hn
    rw [sgf] at h1
    have := Int.mul_neg_of_neg_of_pos hz hp
    omega
  · obtain ⟨a1, a2⟩ := sides (k * 2 ^ E)
    obtain ⟨b1, b2⟩ := scale_le (k := k) (N := N) (E := E) (c := c) (n := n) (g := g) (by omega)
    rw [a1, a2, b1, b2, Bool.toNat_false, Nat.add_zero]
    exact ⟨Iff.rfl, Iff.rfl⟩
  · obtain ⟨a1, a2⟩ := sides z
    rw [a1, a2]
    have hg : N * 2 ^ g = N * 2 ^ E * 2 ^ c := by rw [Nat.mul_assoc, ← Nat.pow_add, show E + c = g by omega]
    rw [hg]
    have hp2 := Nat.two_pow_pos c
    exact ⟨⟨fun h => Nat.le_of_mul_le_mul_right h hp2, fun h => Nat.mul_le_mul_right _ h⟩, ⟨fun h => Nat.le_of_mul_le_mul_right h hp2, fun h => Nat.mul_le_mul_right _ h⟩⟩

theorem mul_spec {n1 n2 : Bool} {r1 r2 : Nat} (h1 : r1 < I) (h2 : r2 < I) {c : Nat} (hc : c = 1074) :
    (∃ s, round_Mul M0 (wd n1 r1) (wd n2 r2) true = (F s, 0) ∧ round_Mul.ok M0 (wd n1 r1) (wd n2 r2) true = true ∧ isD s (fun z => z * ((2 ^ c : Nat) : Int) ≤ sg n1 (V r1) * sg n2 (V r2))) ∧
    (∃ s, round_Mul M0 (wd n1 r1) (wd n2 r2) false = (F s, 0) ∧ round_Mul.ok M0 (wd n1 r1) (wd n2 r2) false = true ∧ isU s (fun z => sg n1 (V r1) * sg n2 (V r2) ≤ z * ((2 ^ c : Nat) : Int))) := by
  have hB := B_val
  have hm := hm64
  obtain ⟨m1, e1, s1, v1, _, l1, _, k1⟩ := split_wd (neg := n1) h1
  obtain ⟨m2, e2, s2, v2, _, l2, _, k2⟩ := split_wd (neg := n2) h2
  have htwo : round_two M0 (wd n1 r1) (wd n2 r2) = true := by unfold round_two; rw [number_wd h1, number_wd h2]; rfl
  have hN : m1 * m2 < m64 * m64 := Nat.mul_lt_mul_of_lt_of_lt (by omega) (by omega)
  have hmul : bits_Mul64 M0 (ex n1 m1 ((e1 : Int) - 1074) false).lo (ex n2 m2 ((e2 : Int) - 1074) false).lo = (((m1 * m2 / m64 : Nat) : Int), ((m1 * m2 % m64 : Nat) : Int)) := by
    rw [ex_small n1 (show m1 < m64 by omega), ex_small n2 (show m2 < m64 by omega)]
    exact mul64 (by omega) (by omega)
  have he : IntKind.i64.wrap (((e1 : Int) - 1074) + ((e2 : Int) - 1074)) = (e1 : Int) + e2 - 2148 := by
    rw [i_in (by omega)]; omega
  have hx : (⟨!(n1 == n2), ((m1 * m2 / m64 : Nat) : Int), ((m1 * m2 % m64 : Nat) : Int), (e1 : Int) + e2 - 2148, false⟩ : LExact) = ex (!(n1 == n2)) (m1 * m2) ((e1 : Int) + e2 - 2148) false := rfl
  have key := to_frac (neg := !(n1 == n2)) hN (e := (e1 : Int) + e2 - 2148) (by omega) (c := c) (g := e1 + e2) (G := V r1 * V r2) (by omega) (by rw [v1, v2, Nat.pow_add, Nat.mul_mul_mul_comm])
  rw [sg_mul2]
  have eq1 : ∀ down, round_Mul M0 (wd n1 r1) (wd n2 r2) down = (round_exact_to M0 (ex (!(n1 == n2)) (m1 * m2) ((e1 : Int) + e2 - 2148) false) down, 0) := by
    intro down
    unfold round_Mul
    rw [htwo]
    dsimp only
    rw [s1, s2, hmul, show (ex n1 m1 ((e1 : Int) - 1074) false).neg = n1 from rfl, show (ex n2 m2 ((e2 : Int) - 1074) false).neg = n2 from rfl, show (ex n1 m1 ((e1 : Int) - 1074) false).e = (e1 : Int) - 1074 from rfl, show (ex n2 m2 ((e2 : Int) - 1074) false).e = (e2 : Int) - 1074 from rfl, he]
    rfl
  have eq2 : ∀ down, round_exact_to.ok M0 (ex (!(n1 == n2)) (m1 * m2) ((e1 : Int) + e2 - 2148) false) down = true → round_Mul.ok M0 (wd n1 r1) (wd n2 r2) down = true := by
    intro down h
    unfold round_Mul.ok
    rw [htwo, twook_wd (Nat.le_of_lt h1) (Nat.le_of_lt h2), splitok_wd (Nat.le_of_lt h1), splitok_wd (Nat.le_of_lt h2)]
    dsimp only
    rw [s1, s2, hmul, show (ex n1 m1 ((e1 : Int) - 1074) false).neg = n1 from rfl, show (ex n2 m2 ((e2 : Int) - 1074) false).neg = n2 from rfl, show (ex n1 m1 ((e1 : Int) - 1074) false).e = (e1 : Int) - 1074 from rfl, show (ex n2 m2 ((e2 : Int) - 1074) false).e = (e2 : Int) - 1074 from rfl, he]
    dsimp only
    rw [hx, h]
    rfl
  obtain ⟨⟨s, a1, a2, a3⟩, ⟨t, b1, b2, b3⟩⟩ := key
  exact ⟨⟨s, by rw [eq1, a1], eq2 _ a2, a3⟩, ⟨t, by rw [eq1, b1], eq2 _ b2, b3⟩⟩

end Go.Lan
