/- Rounded down and up, by places; products. -/
import Derived.Test.YtpgjihkaocahbaaMh
namespace Go.Lan

attribute [local irreducible] B

theorem prod_lt {a b : Nat} (ha : a < 4294967296) (hb : b < 4294967296) : a * b ≤ 18446744065119617025 :=
  Nat.mul_le_mul (show a ≤ 4294967295 by omega) (show b ≤ 4294967295 by omega)

theorem mul64 {x y : Nat} (hx : x < m64) (hy : y < m64) : bits_Mul64 M0 (x : Int) (y : Int) = (((x * y / m64 : Nat) : Int), ((x * y % m64 : Nat) : Int)) := by
  have hm := hm64
  unfold bits_Mul64
  have f1 : ∀ z : Nat, z < m64 → M0.and .u64 (z : Int) 4294967295 = ((z % 4294967296 : Nat) : Int) := fun z hz => by
    have := u_and hz (show 4294967295 < m64 by omega)
    rw [show (4294967295 : Nat) = 2 ^ 32 - 1 by decide, and_low] at this
    exact this
  have f2 : ∀ z : Nat, z < m64 → shrV .u64 (z : Int) 32 = ((z / 4294967296 : Nat) : Int) := fun z hz => u_shr hz 32
  dsimp only
  rw [f1 x hx, f1 y hy, f2 x hx, f2 y hy]
  have ex : x = x % 4294967296 + 4294967296 * (x / 4294967296) := by omega
  have ey : y = y % 4294967296 + 4294967296 * (y / 4294967296) := by omega
  have hxy : x * y = (x % 4294967296) * (y % 4294967296) + 4294967296 * ((x / 4294967296) * (y % 4294967296) + (x % 4294967296) * (y / 4294967296)) + 18446744073709551616 * ((x / 4294967296) * (y / 4294967296)) := by
    conv => lhs; rw [ex, ey]
    generalize x % 4294967296 = a
    generalize x / 4294967296 = b
    generalize y % 4294967296 = c
    generalize y / 4294967296 = d
    simp only [Nat.add_mul, Nat.mul_add, Nat.mul_assoc, Nat.mul_left_comm a 4294967296, Nat.mul_left_comm b 4294967296]
    omega
  have b1 := prod_lt (a := x % 4294967296) (b := y % 4294967296) (by omega) (by omega)
  have b2 := prod_lt (a := x / 4294967296) (b := y % 4294967296) (by omega) (by omega)
  have b3 := prod_lt (a := x % 4294967296) (b := y / 4294967296) (by omega) (by omega)
  have b4 := prod_lt (a := x / 4294967296) (b := y / 4294967296) (by omega) (by omega)
  simp only [← Int.natCast_mul]
  generalize (x % 4294967296) * (y % 4294967296) = a at *
  generalize (x / 4294967296) * (y % 4294967296) = b at *
  generalize (x % 4294967296) * (y / 4294967296) = c at *
  generalize (x / 4294967296) * (y / 4294967296) = d at *
  generalize x * y = w at *
  subst hxy
  rw [u_wrap_lt (n := a) (by omega), u_wrap_lt (n := b) (by omega), u_wrap_lt (n := c) (by omega), u_wrap_lt (n := d) (by omega), f2 a (by omega)]
  simp only [← Int.natCast_add]
  rw [u_wrap_lt (n := b + a / 4294967296) (by omega), f1 _ (by omega), f2 _ (by omega)]
  simp only [← Int.natCast_add]
  rw [u_wrap_lt (n := (b + a / 4294967296) % 4294967296 + c) (by omega), f2 _ (by omega), u_wrap_lt (n := d + (b + a / 4294967296) / 4294967296) (by omega)]
  simp only [← Int.natCast_add]
  rw [u_wrap_lt (by omega), u_wrap, hm]
  congr 2
  omega

/-! ### By places -/
theorem sgf (v : Nat) : sg false v = (v : Int) := rfl
theorem sgt (v : Nat) : sg true v = -(v : Int) := rfl
/-- The number at a place, in units of the least. -/
def Wi (s : Int) : Int := sg (decide (s < 0)) (V s.natAbs)
theorem Wi_nat (r : Nat) : Wi (r : Int) = V r := by
  unfold Wi
  rw [decide_eq_false (by omega), Int.natAbs_natCast]; rfl
theorem Wi_neg (s : Int) : Wi (-s) = -(Wi s) := by
  unfold Wi
  rw [Int.natAbs_neg]
  rcases Int.lt_trichotomy s 0 with h | h | h
  · have h1 : decide (-s < 0) = false := decide_eq_false (by omega)
    rw [decide_eq_true h, h1, sgt, sgf]; omega
  · subst h
    rw [Int.natAbs_zero, V_zero, sg_zero, sg_zero]; rfl
  · have h1 : decide (-s < 0) = true := decide_eq_true (by omega)
    have h2 : decide (s < 0) = false := decide_eq_false (by omega)
    rw [h1, h2, sgt, sgf]
theorem Wi_lt {s t : Int} : Wi s < Wi t ↔ s < t := by
  unfold Wi
  rw [sg_V.1, K_F, K_F]
theorem Wi_le {s t : Int} : Wi s ≤ Wi t ↔ s ≤ t := by
  have := @Wi_lt t s
  omega
theorem Wi_zero : Wi 0 = 0 := by
  have := Wi_nat 0
  rw [V_zero] at this
  exact this
theorem Wi_sg (neg : Bool) (r : Nat) : Wi (sg neg r) = sg neg (V r) := by
  cases neg
  · exact Wi_nat r
  · show Wi (-(r : Int)) = _
    rw [Wi_neg, Wi_nat]; rfl

/-- s is the greatest place of a number at or below what P tells of. -/
structure isD (s : Int) (P : Int → Prop) : Prop where
  lo : -(I : Int) ≤ s
  hi : s < I
  at_ : s = -(I : Int) ∨ P (Wi s)
  top : ∀ t, s < t → t < I → ¬ P (Wi t)
/-- The least at or above. -/
structure isU (s : Int) (P : Int → Prop) : Prop where
  lo : -(I : Int) < s
  hi : s ≤ I
  at_ : s = (I : Int) ∨ P (Wi s)
  bot : ∀ t, -(I : Int) < t → t < s → ¬ P (Wi t)

theorem isD.mono {s t : Int} {P Q : Int → Prop} (h : isD s P) (k : isD t Q) (hPQ : ∀ w, P w → Q w) : s ≤ t := by
  rcases Int.lt_or_le t s with h1 | h1
  · exfalso
    rcases h.at_ with h2 | h2
    · have := k.lo; omega
    · exact k.top s h1 h.hi (hPQ _ h2)
  · exact h1
theorem isU.mono {s t : Int} {P Q : Int → Prop} (h : isU s P) (k : isU t Q) (hPQ : ∀ w, P w → Q w) : t ≤ s := by
  rcases Int.lt_or_le s t with h1 | h1
  · exfalso
    rcases h.at_ with h2 | h2
    · have := k.hi; omega
    · exact k.bot s h.lo h1 (hPQ _ h2)
  · exact h1

theorem sgn_place (t : Int) : ∃ neg r, t = sg neg r ∧ (r = 0 → neg = false) := by
  rcases Int.lt_or_le t 0 with h | h
  · exact ⟨true, t.natAbs, by simp [sg]; omega, by omega⟩
  · exact ⟨false, t.natAbs, by simp [sg]; omega, fun _ => rfl⟩

/-- What 'to' gives, by places. -/
theorem to_signed {neg more : Bool} {N : Nat} (hN : N < m64 * m64) {e : Int} (he : -5000 < e ∧ e < 5000) (hmore : more = true → 53 < blen N ∨ e < -1074) {P Q : Int → Prop}
    (hP : ∀ a b, a ≤ b → P b → P a) (hQ : ∀ a b, a ≤ b → Q a → Q b)
    (hsP : neg = true → ∀ z : Int, 0 < z → ¬ P z) (hsQ : neg = false → ∀ z : Int, z < 0 → ¬ Q z)
    (H : ∀ c E n : Nat, (E : Int) = e + n + 1074 → ((if neg then Q (-((c * 2 ^ E : Nat) : Int)) else P ((c * 2 ^ E : Nat) : Int)) ↔ c * 2 ^ n ≤ N) ∧ ((if neg then P (-((c * 2 ^ E : Nat) : Int)) else Q ((c * 2 ^ E : Nat) : Int)) ↔ N + more.toNat ≤ c * 2 ^ n))
    (H0 : more = false → ∀ E : Nat, (E : Int) = e + 1074 → ∀ z : Nat, ((if neg then Q (-(z : Int)) else P (z : Int)) ↔ z ≤ N * 2 ^ E) ∧ ((if neg then P (-(z : Int)) else Q (z : Int)) ↔ N * 2 ^ E ≤ z)) :
    (∃ s, round_exact_to M0 (ex neg N e more) true = F s ∧ round_exact_to.ok M0 (ex neg N e more) true = true ∧ isD s P) ∧
    (∃ s, round_exact_to M0 (ex neg N e more) false = F s ∧ round_exact_to.ok M0 (ex neg N e more) false = true ∧ isU s Q) := by
  have hI := I_eq
  have key := fun down => to_spec (neg := neg) (more := more) (down := down) hN he hmore (le := fun z => if neg then Q (-(z : Int)) else P (z : Int)) (ge := fun z => if neg then P (-(z : Int)) else Q (z : Int))
    (fun a b hab h => by
      cases neg
      · exact hP _ _ (by omega) h
      · exact hQ _ _ (by omega) h)
    (fun a b hab h => by
      cases neg
      · exact hQ _ _ (by omega) h
      · exact hP _ _ (by omega) h) H H0
  constructor
  · obtain ⟨q, h1, h2, h3, h4⟩ := key true
    refine ⟨sg neg q, h1, h2, ?_⟩
    cases neg
    · obtain ⟨a1, a2, a3⟩ := h4 (by simp)
      rw [sgf]
      refine ⟨by omega, by omega, .inr ?_, fun t ht ht2 => ?_⟩
      · rw [Wi_nat]; exact a2
      · have := a3 t.natAbs (by omega) (by omega)
        rw [show t = ((t.natAbs : Nat) : Int) by omega, Wi_nat]
        exact this
    · obtain ⟨a1, a2, a3⟩ := h3 rfl
      rw [sgt]
      refine ⟨by omega, by omega, ?_, fun t ht ht2 => ?_⟩
      · rcases a2 with h5 | h5
        · left; rw [h5]
        · right; rw [Wi_neg, Wi_nat]; exact h5
      · rcases Int.lt_or_le 0 t with h5 | h5
        · refine hsP rfl _ ?_
          rw [← Wi_zero, Wi_lt]
          exact h5
        · have := a3 t.natAbs (by omega)
          rw [show t = -((t.natAbs : Nat) : Int) by omega, Wi_neg, Wi_nat]
          exact this
  · obtain ⟨q, h1, h2, h3, h4⟩ := key false
    refine ⟨sg neg q, h1, h2, ?_⟩
    cases neg
    · obtain ⟨a1, a2, a3⟩ := h3 rfl
      rw [sgf]
      refine ⟨by omega, by omega, ?_, fun t ht ht2 => ?_⟩
      · rcases a2 with h5 | h5
        · left; rw [h5]
        · right; rw [Wi_nat]; exact h5
      · rcases Int.lt_or_le t 0 with h5 | h5
        · refine hsQ rfl _ ?_
          rw [← Wi_zero, Wi_lt]
          exact h5
        · have := a3 t.natAbs (by omega)
          rw [show t = ((t.natAbs : Nat) : Int) by omega, Wi_nat]
          exact this
    · obtain ⟨a1, a2, a3⟩ := h4 (by simp)
      rw [sgt]
      refine ⟨by omega, by omega, .inr ?_, fun t ht ht2 => ?_⟩
      · rw [Wi_neg, Wi_nat]; exact a2
      · have := a3 t.natAbs (by omega) (by omega)
        rw [show t = -((t.natAbs : Nat) : Int) by omega, Wi_neg, Wi_nat]
        exact this

end Go.Lan
