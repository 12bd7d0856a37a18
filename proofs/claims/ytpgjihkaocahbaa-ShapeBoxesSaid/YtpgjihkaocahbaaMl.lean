/- Sums of exact numbers, and of floats, rounded down and up. -/
import Derived.Test.YtpgjihkaocahbaaMk
namespace Go.Lan

attribute [local irreducible] B

theorem add_ex {n : Bool} {mb : Bool} {A C : Nat} (h : A + C < m64 * m64) (e e2 : Int) :
    mergeX (ex n A e false) (ex n C e2 mb) = ex n (A + C) e mb ∧ mergeX.ok (ex n A e false) (ex n C e2 mb) = true := by
  have hw := add_words h
  have hlo : ∀ n N e m, (ex n N e m).lo = ((N % m64 : Nat) : Int) := fun _ _ _ _ => rfl
  have hhi : ∀ n N e m, (ex n N e m).hi = ((N / m64 : Nat) : Int) := fun _ _ _ _ => rfl
  have hng : ∀ n N e m, (ex n N e m).neg = n := fun _ _ _ _ => rfl
  have hn : (n == n) = true := by simp
  simp only [Prod.mk.injEq] at hw
  constructor
  · unfold mergeX
    rw [hng, hng, hn, cond_true, hlo, hlo, hhi, hhi, show (0 : Int) = ((0 : Nat) : Int) from rfl, add64_nat]
    dsimp only
    rw [add64_nat]
    dsimp only
    rw [hw.1, hw.2]
    rfl
  · unfold mergeX.ok
    rw [hng, hng, hn, cond_true, hlo, hlo, hhi, hhi, show (0 : Int) = ((0 : Nat) : Int) from rfl, add64_nat]
    dsimp only
    have hm := hm64
    have h1 : (A % m64 + C % m64 + 0) / m64 ≤ 1 := by
      have h3 := Nat.mod_lt A (show 0 < m64 by omega)
      have h4 := Nat.mod_lt C (show 0 < m64 by omega)
      rw [hm] at *
      omega
    have o1 : ∀ x y : Int, add64.ok x y (((A % m64 + C % m64 + 0) / m64 : Nat) : Int) = true := fun x y => decide_eq_true (by omega)
    have o2 : ∀ x y : Int, add64.ok x y ((0 : Nat) : Int) = true := fun x y => rfl
    rw [o1, o2]
    rfl

theorem diff_ex {na nb mb : Bool} (hn : na ≠ nb) {A C : Nat} (hA : A < m64 * m64) (hC : C < m64 * m64) (e e2 : Int) :
    (C + mb.toNat ≤ A → mergeX (ex na A e false) (ex nb C e2 mb) = ex na (A - C - mb.toNat) e mb) ∧
    (mb = false → A < C → mergeX (ex na A e false) (ex nb C e2 mb) = ex (!na) (C - A) e mb) ∧
    mergeX.ok (ex na A e false) (ex nb C e2 mb) = true := by
  have hne : (na == nb) = false := by simp [hn]
  have hng : ∀ n N e m, (ex n N e m).neg = n := fun _ _ _ _ => rfl
  have hmo : ∀ n N e m, (ex n N e m).more = m := fun _ _ _ _ => rfl
  unfold mergeX mergeX.ok
  rw [hng, hng, hne, hmo]
  cases mb
  · obtain ⟨a1, a2, a3⟩ := sub_ex (na := na) (nb := nb) (mb := false) (c := 0) hA hC (by omega) e e2
    simp only [cond_false, Bool.toNat_false, Nat.add_zero, Nat.sub_zero] at *
    exact ⟨a1, fun _ => a2 trivial, a3⟩
  · obtain ⟨a1, a2, a3⟩ := sub_ex (na := na) (nb := nb) (mb := true) (c := 1) hA hC (by omega) e e2
    simp only [cond_false, cond_true, Bool.toNat_true] at *
    exact ⟨a1, fun h => by simp at h, a3⟩

theorem right_zero (neg : Bool) (N : Nat) (e : Int) (he : -100000 < e ∧ e < 100000) (more : Bool) : round_exact_right M0 (ex neg N e more) 0 = ex neg N e more ∧ round_exact_right.ok M0 (ex neg N e more) 0 = true := by
  unfold round_exact_right round_exact_right.ok
  rw [show (ex neg N e more).e = e from rfl, show (ex neg N e more).neg = neg from rfl, show (ex neg N e more).more = more from rfl, show (ex neg N e more).hi = ((N / m64 : Nat) : Int) from rfl, show (ex neg N e more).lo = ((N % m64 : Nat) : Int) from rfl]
  dsimp only
  have h0 : decide ((0 : Int) ≤ 0) = true := rfl
  rw [h0, cond_true, cond_true, i_in (n := e + 0) (by omega), i_in (n := e + 0 - 0) (by omega), Int.add_zero, Int.sub_zero]
  exact ⟨rfl, rfl⟩


/-- What an exact number tells of a whole S: N * 2 ^ g and a rest. -/
structure Tells (x : LExact) (S : Int) : Prop where
  of : ∃ (neg : Bool) (N g d : Nat) (e : Int) (more : Bool), x = ex neg N e more ∧ N < m64 * m64 ∧ (g : Int) = e + 1200 ∧ e < 4000 ∧ S = sg neg S.natAbs ∧ S.natAbs * 2 ^ 126 = N * 2 ^ g + d ∧ d < 2 ^ g ∧ (more = true ↔ 0 < d) ∧ (more = true → 53 < blen N)

theorem tells_to {x : LExact} {S : Int} (h : Tells x S) :
    (∃ s, round_exact_to M0 x true = F s ∧ round_exact_to.ok M0 x true = true ∧ isD s (fun z => z ≤ S)) ∧
    (∃ s, round_exact_to M0 x false = F s ∧ round_exact_to.ok M0 x false = true ∧ isU s (fun z => S ≤ z)) := by
  obtain ⟨neg, N, g, d, e, more, rfl, hN, hg, he, hS, hd, hdl, hm, hl⟩ := h.of
  generalize S.natAbs = A at *
  subst hS
  have hp := Nat.two_pow_pos g
  have sides : ∀ z : Nat, ((if neg then sg neg A ≤ -(z : Int) else (z : Int) ≤ sg neg A) ↔ z ≤ A) ∧ ((if neg then -(z : Int) ≤ sg neg A else sg neg A ≤ (z : Int)) ↔ A ≤ z) := by
    intro z
    cases neg
    · rw [sgf]; simp only [Bool.false_eq_true, if_false]; omega
    · rw [sgt]; simp only [if_true]; omega
  have h126 := Nat.two_pow_pos 126
  have big : ∀ z : Nat, (z ≤ A ↔ z * 2 ^ 126 ≤ N * 2 ^ g + d) ∧ (A ≤ z ↔ N * 2 ^ g + d ≤ z * 2 ^ 126) := fun z => by
    rw [← hd]
    exact ⟨⟨fun h => Nat.mul_le_mul_right _ h, fun h => Nat.le_of_mul_le_mul_right h h126⟩, ⟨fun h => Nat.mul_le_mul_right _ h, fun h => Nat.le_of_mul_le_mul_right h h126⟩⟩
  refine to_signed hN (by omega) (fun h => .inl (hl h)) (P := fun z => z ≤ sg neg A) (Q := fun z => sg neg A ≤ z) (fun a b h1 h2 => by omega) (fun a b h1 h2 => by omega) (fun hn z hz h1 => ?_) (fun hn z hz h1 => ?_) (fun k E n hE => ?_) (fun hmo E hE z => ?_)
  · subst hn; rw [sgt] at h1; omega
  · subst hn; rw [sgf] at h1; omega
  · obtain ⟨a1, a2⟩ := sides (k * 2 ^ E)
    obtain ⟨b1, b2⟩ := big (k * 2 ^ E)
    rw [a1, a2, b1, b2]
    have e1 : k * 2 ^ E * 2 ^ 126 = k * 2 ^ n * 2 ^ g := by rw [Nat.mul_assoc, ← Nat.pow_add, show E + 126 = n + g by omega, Nat.pow_add, ← Nat.mul_assoc]
    rw [e1]
    generalize k * 2 ^ n = w
    constructor
    · constructor
      · intro h
        rcases Nat.lt_or_ge N w with h1 | h1
        · exfalso
          have : (N + 1) * 2 ^ g ≤ w * 2 ^ g := Nat.mul_le_mul_right _ h1
          rw [Nat.add_mul] at this
          omega
        · exact h1
      · intro h
        have : w * 2 ^ g ≤ N * 2 ^ g := Nat.mul_le_mul_right _ h
        omega
    · constructor
      · intro h
        rcases Nat.lt_or_ge w (N + more.toNat) with h1 | h1
        · exfalso
          cases more
          · simp only [Bool.toNat_false, Nat.add_zero] at h1
            have : (w + 1) * 2 ^ g ≤ N * 2 ^ g := Nat.mul_le_mul_right _ h1
            rw [Nat.add_mul] at this
            omega
          · have h2 := hm.1 rfl
            simp only [Bool.toNat_true] at h1
            have : w * 2 ^ g ≤ N * 2 ^ g := Nat.mul_le_mul_right _ (by omega)
            omega
        · exact h1
      · intro h
        have h3 : (N + more.toNat) * 2 ^ g ≤ w * 2 ^ g := Nat.mul_le_mul_right _ h
        rw [Nat.add_mul] at h3
        cases more
        · have : d = 0 := by
            rcases Nat.eq_zero_or_pos d with h4 | h4
            · exact h4
            · have := hm.2 h4; cases this
          simp only [Bool.toNat_false, Nat.zero_mul] at h3
          omega
        · simp only [Bool.toNat_true, Nat.one_mul] at h3
          omega
  · subst hmo
    have hd0 : d = 0 := by
      rcases Nat.eq_zero_or_pos d with h4 | h4
      · exact h4
      · have := hm.2 h4; cases this
    subst hd0
    obtain ⟨a1, a2⟩ := sides z
    obtain ⟨b1, b2⟩ := big z
    rw [a1, a2, b1, b2, Nat.add_zero]
    have e1 : N * 2 ^ g = N * 2 ^ E * 2 ^ 126 := by rw [Nat.mul_assoc, ← Nat.pow_add, show E + 126 = g by omega]
    rw [e1]
    exact ⟨⟨fun h => Nat.le_of_mul_le_mul_right h h126, fun h => Nat.mul_le_mul_right _ h⟩, ⟨fun h => Nat.le_of_mul_le_mul_right h h126, fun h => Nat.mul_le_mul_right _ h⟩⟩

end Go.Lan
