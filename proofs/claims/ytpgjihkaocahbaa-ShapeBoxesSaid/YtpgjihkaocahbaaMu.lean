/- Numbers and their sums, products, quotients and roots, by places. -/
import Derived.Test.YtpgjihkaocahbaaMt
namespace Go.Lan

attribute [local irreducible] B

instance (s : Int) : Decidable (nm s) := inferInstanceAs (Decidable (_ ∧ _))

theorem I_pos : 0 < (I : Int) := by have := I_eq; omega
theorem pl_abs {s : Int} (h : pl s) : s.natAbs ≤ I := by have := h.1; have := h.2; omega
theorem nm_abs {s : Int} (h : nm s) : s.natAbs < I := by have := h.1; have := h.2; omega
theorem Wi_F (s : Int) : Wi s = sg (decide (s < 0)) (V s.natAbs) := rfl

theorem inf_hi : math_Inf M0 1 = F I := by
  have : F (I : Int) = I := F_nat I
  rw [this, I_eq]; rfl
theorem inf_lo : math_Inf M0 (-1) = F (-(I : Int)) := by
  have h : F (-(I : Int)) = 9223372036854775808 + I := by
    have hI := I_eq
    unfold F wd
    rw [if_pos (by omega), if_pos rfl]
    congr 1
    omega
  rw [h, I_eq]; rfl

theorem isInf_F {s : Int} (h : pl s) : math_IsInf M0 (F s) 0 = decide (s = (I : Int) ∨ s = -(I : Int)) := by
  rw [F_wd, isInf_wd (pl_abs h), Bool.eq_iff_iff, decide_eq_true_eq, decide_eq_true_eq]
  omega
theorem isInfok_F {s : Int} (h : pl s) : math_IsInf.ok M0 (F s) 0 = true := by
  rw [F_wd]; exact isInfok_wd (pl_abs h)
theorem number_F {s : Int} (h : pl s) : round_Number M0 (F s) = decide (nm s) := by
  have hI := I_eq
  by_cases hn : nm s
  · rw [F_wd, number_wd (nm_abs hn), decide_eq_true hn]
  · have : s.natAbs = I := by
      have h1 := h.1
      have h2 := h.2
      unfold nm at hn
      omega
    rw [F_wd, this, number_inf, decide_eq_false hn]
theorem numberok_F {s : Int} (h : pl s) : round_Number.ok M0 (F s) = true := by
  rw [F_wd]; exact numberok_wd (pl_abs h)
theorem two_F {s t : Int} (h : pl s) (k : pl t) : round_two M0 (F s) (F t) = decide (nm s ∧ nm t) := by
  unfold round_two
  rw [number_F h, number_F k]
  by_cases h1 : nm s <;> by_cases h2 : nm t <;> simp [h1, h2]
theorem twook_F {s t : Int} (h : pl s) (k : pl t) : round_two.ok M0 (F s) (F t) = true := by
  rw [F_wd, F_wd]; exact twook_wd (pl_abs h) (pl_abs k)

theorem nm_zero : nm 0 := by have := I_pos; exact ⟨by omega, by omega⟩
theorem pl_zero : pl 0 := nm_zero.pl

/-- What is known of two ends, one told by what lies below a number and one by what lies above it. -/
theorem isD_le_isU {s t : Int} {P Q : Int → Prop} (h : isD s P) (k : isU t Q) (hPQ : ∀ x y, P x → Q y → x ≤ y) : s ≤ t := by
  rcases h.at_ with h1 | h1
  · have := k.lo; omega
  · rcases k.at_ with h2 | h2
    · have := h.hi; omega
    · exact Wi_le.1 (hPQ _ _ h1 h2)
theorem isD.pl {s : Int} {P : Int → Prop} (h : isD s P) : pl s := ⟨h.lo, Int.le_of_lt h.hi⟩
theorem isU.pl {s : Int} {P : Int → Prop} (h : isU s P) : pl s := ⟨Int.le_of_lt h.lo, h.hi⟩
theorem isD.congr {s : Int} {P Q : Int → Prop} (h : isD s P) (e : ∀ z, P z ↔ Q z) : isD s Q := by
  have : P = Q := funext fun z => propext (e z)
  rw [← this]; exact h
theorem isU.congr {s : Int} {P Q : Int → Prop} (h : isU s P) (e : ∀ z, P z ↔ Q z) : isU s Q := by
  have : P = Q := funext fun z => propext (e z)
  rw [← this]; exact h
theorem isD.eq {s t : Int} {P : Int → Prop} (h : isD s P) (k : isD t P) : s = t := by
  have h1 := h.mono k fun _ h => h
  have h2 := k.mono h fun _ h => h
  omega
theorem isU.eq {s t : Int} {P : Int → Prop} (h : isU s P) (k : isU t P) : s = t := by
  have h1 := h.mono k fun _ h => h
  have h2 := k.mono h fun _ h => h
  omega

/-! ### Sums -/
theorem addD {a b : Int} (ha : nm a) (hb : nm b) : ∃ s, round_Add M0 (F a) (F b) true = (F s, 0) ∧ round_Add.ok M0 (F a) (F b) true = true ∧ isD s (fun z => z ≤ Wi a + Wi b) := by
  have := (add_spec (n1 := decide (a < 0)) (n2 := decide (b < 0)) (nm_abs ha) (nm_abs hb)).1
  rw [← F_wd, ← F_wd] at this
  exact this
theorem addU {a b : Int} (ha : nm a) (hb : nm b) : ∃ s, round_Add M0 (F a) (F b) false = (F s, 0) ∧ round_Add.ok M0 (F a) (F b) false = true ∧ isU s (fun z => Wi a + Wi b ≤ z) := by
  have := (add_spec (n1 := decide (a < 0)) (n2 := decide (b < 0)) (nm_abs ha) (nm_abs hb)).2
  rw [← F_wd, ← F_wd] at this
  exact this
theorem add_inf {a b : Int} (ha : pl a) (hb : pl b) (h : ¬ (nm a ∧ nm b)) (down : Bool) : round_Add M0 (F a) (F b) down = (0, 10) ∧ round_Add.ok M0 (F a) (F b) down = true := by
  constructor
  · unfold round_Add
    rw [two_F ha hb, decide_eq_false h]; rfl
  · unfold round_Add.ok
    rw [two_F ha hb, decide_eq_false h, twook_F ha hb]; rfl

/-! ### Products -/
def C : Int := ((2 ^ 1074 : Nat) : Int)
theorem C_pos : 0 < C := by unfold C; exact_mod_cast Nat.two_pow_pos 1074
attribute [local irreducible] C

theorem C_of {c : Nat} (hc : c = 1074) : ((2 ^ c : Nat) : Int) = C := by subst hc; unfold C; rfl

theorem mulD {a b : Int} (ha : nm a) (hb : nm b) : ∃ s, round_Mul M0 (F a) (F b) true = (F s, 0) ∧ round_Mul.ok M0 (F a) (F b) true = true ∧ isD s (fun z => z * C ≤ Wi a * Wi b) := by
  obtain ⟨c, hc⟩ : ∃ c : Nat, c = 1074 := ⟨_, rfl⟩
  have := (mul_spec (n1 := decide (a < 0)) (n2 := decide (b < 0)) (nm_abs ha) (nm_abs hb) hc).1
  rw [← F_wd, ← F_wd, C_of hc] at this
  exact this
theorem mulU {a b : Int} (ha : nm a) (hb : nm b) : ∃ s, round_Mul M0 (F a) (F b) false = (F s, 0) ∧ round_Mul.ok M0 (F a) (F b) false = true ∧ isU s (fun z => Wi a * Wi b ≤ z * C) := by
  obtain ⟨c, hc⟩ : ∃ c : Nat, c = 1074 := ⟨_, rfl⟩
  have := (mul_spec (n1 := decide (a < 0)) (n2 := decide (b < 0)) (nm_abs ha) (nm_abs hb) hc).2
  rw [← F_wd, ← F_wd, C_of hc] at this
  exact this

/-! ### Quotients -/
/-- z is at or below x over y; at or above. -/
def QD (x y z : Int) : Prop := if 0 < y then z * y ≤ x * C else x * C ≤ z * y
def QU (x y z : Int) : Prop := if 0 < y then x * C ≤ z * y else z * y ≤ x * C

theorem Wi_pos {s : Int} : 0 < Wi s ↔ 0 < s := by
  have := @Wi_lt 0 s
  rw [Wi_zero] at this; exact this
theorem Wi_neg_iff {s : Int} : Wi s < 0 ↔ s < 0 := by
  have := @Wi_lt s 0
  rw [Wi_zero] at this; exact this

theorem quot_pred {a b : Int} (hb : b ≠ 0) (z : Int) :
    (z * (V b.natAbs : Int) ≤ sg (!(decide (a < 0) == decide (b < 0))) (V a.natAbs * 2 ^ 1074) ↔ QD (Wi a) (Wi b) z) ∧
    (sg (!(decide (a < 0) == decide (b < 0))) (V a.natAbs * 2 ^ 1074) ≤ z * (V b.natAbs : Int) ↔ QU (Wi a) (Wi b) z) := by
  have h1 : sg (!(decide (a < 0) == decide (b < 0))) (V a.natAbs * 2 ^ 1074) = (if b < 0 then -(Wi a) else Wi a) * C := by
    rw [sg_mul, C_of rfl]
    congr 1
    rw [Wi_F]
    by_cases h : b < 0
    · rw [if_pos h, decide_eq_true h]
      cases decide (a < 0)
      · rw [sgf]; rfl
      · rw [sgt, Int.neg_neg]; rfl
    · rw [if_neg h, decide_eq_false h]
      cases decide (a < 0)
      · rfl
      · rfl
  have h2 : (V b.natAbs : Int) = if b < 0 then -(Wi b) else Wi b := by
    rw [Wi_F]
    by_cases h : b < 0
    · rw [if_pos h, decide_eq_true h, sgt, Int.neg_neg]
    · rw [if_neg h, decide_eq_false h, sgf]
  rw [h1, h2]
  unfold QD QU
  by_cases h : b < 0
  · have h3 : ¬ 0 < Wi b := by rw [Wi_pos]; omega
    rw [if_pos h, if_pos h, if_neg h3, if_neg h3, Int.mul_neg, Int.neg_mul, Int.neg_le_neg_iff, Int.neg_le_neg_iff]
    exact ⟨Iff.rfl, Iff.rfl⟩
  · have h3 : 0 < Wi b := by rw [Wi_pos]; omega
    rw [if_neg h, if_neg h, if_pos h3, if_pos h3]
    exact ⟨Iff.rfl, Iff.rfl⟩

theorem divD {a b : Int} (ha : nm a) (hb : nm b) (h0 : b ≠ 0) : ∃ s, round_Div M0 (F a) (F b) true = (F s, 0) ∧ round_Div.ok M0 (F a) (F b) true = true ∧ isD s (QD (Wi a) (Wi b)) := by
  obtain ⟨s, h1, h2, h3⟩ := (div_spec (n1 := decide (a < 0)) (n2 := decide (b < 0)) (nm_abs ha) (nm_abs hb) (by omega) (c := 1074) rfl).1
  rw [← F_wd, ← F_wd] at h1 h2
  exact ⟨s, h1, h2, h3.congr fun z => (quot_pred h0 z).1⟩
theorem divU {a b : Int} (ha : nm a) (hb : nm b) (h0 : b ≠ 0) : ∃ s, round_Div M0 (F a) (F b) false = (F s, 0) ∧ round_Div.ok M0 (F a) (F b) false = true ∧ isU s (QU (Wi a) (Wi b)) := by
  obtain ⟨s, h1, h2, h3⟩ := (div_spec (n1 := decide (a < 0)) (n2 := decide (b < 0)) (nm_abs ha) (nm_abs hb) (by omega) (c := 1074) rfl).2
  rw [← F_wd, ← F_wd] at h1 h2
  exact ⟨s, h1, h2, h3.congr fun z => (quot_pred h0 z).2⟩

/-! ### Roots -/
def RD (x z : Int) : Prop := z < 0 ∨ z * z ≤ x * C
def RU (x z : Int) : Prop := 0 ≤ z ∧ x * C ≤ z * z

theorem sqrtD {a : Int} (ha : nm a) (h0 : 0 ≤ a) : ∃ s, round_Sqrt M0 (F a) true = (F s, 0) ∧ round_Sqrt.ok M0 (F a) true = true ∧ isD s (RD (Wi a)) := by
  rcases Int.lt_or_eq_of_le h0 with h | h
  · obtain ⟨s, h1, h2, h3⟩ := (sqrt_spec (r1 := a.natAbs) (nm_abs ha) (by omega) (c := 1074) rfl).1
    have e : wd false a.natAbs = F a := by rw [F_wd, decide_eq_false (by omega)]
    rw [e] at h1 h2
    refine ⟨s, h1, h2, h3.congr fun z => ?_⟩
    unfold RD
    rw [Wi_F, decide_eq_false (by omega), sgf, Int.natCast_mul, C_of rfl]
  · subst h
    refine ⟨0, ?_, ?_, ⟨by have := I_pos; omega, I_pos, .inr (.inr ?_), fun t ht _ hP => ?_⟩⟩
    · unfold round_Sqrt
      rw [number_F pl_zero, decide_eq_true nm_zero]
      have e1 : M0.lt (F 0) 0 = false := by have := lt_F pl_zero pl_zero; rw [F_zero] at *; rw [this]; rfl
      have e2 : M0.eq (F 0) 0 = true := by have := eq_F pl_zero pl_zero; rw [F_zero] at *; rw [this]; rfl
      rw [e1, e2]; rfl
    · unfold round_Sqrt.ok
      rw [number_F pl_zero, decide_eq_true nm_zero, numberok_F pl_zero]
      have e1 : M0.lt (F 0) 0 = false := by have := lt_F pl_zero pl_zero; rw [F_zero] at *; rw [this]; rfl
      have e2 : M0.eq (F 0) 0 = true := by have := eq_F pl_zero pl_zero; rw [F_zero] at *; rw [this]; rfl
      rw [e1, e2]; rfl
    · rw [Wi_zero]; omega
    · have h1 := Wi_pos.2 ht
      unfold RD at hP
      rw [Wi_zero, Int.zero_mul] at hP
      rcases hP with h2 | h2
      · omega
      · have := Int.mul_pos h1 h1
        omega
theorem sqrtU {a : Int} (ha : nm a) (h0 : 0 ≤ a) : ∃ s, round_Sqrt M0 (F a) false = (F s, 0) ∧ round_Sqrt.ok M0 (F a) false = true ∧ isU s (RU (Wi a)) := by
  rcases Int.lt_or_eq_of_le h0 with h | h
  · obtain ⟨s, h1, h2, h3⟩ := (sqrt_spec (r1 := a.natAbs) (nm_abs ha) (by omega) (c := 1074) rfl).2
    have e : wd false a.natAbs = F a := by rw [F_wd, decide_eq_false (by omega)]
    rw [e] at h1 h2
    refine ⟨s, h1, h2, h3.congr fun z => ?_⟩
    unfold RU
    rw [Wi_F, decide_eq_false (by omega), sgf, Int.natCast_mul, C_of rfl]
  · subst h
    refine ⟨0, ?_, ?_, ⟨by have := I_pos; omega, Int.le_of_lt I_pos, .inr ⟨?_, ?_⟩, fun t _ ht hP => ?_⟩⟩
    · unfold round_Sqrt
      rw [number_F pl_zero, decide_eq_true nm_zero]
      have e1 : M0.lt (F 0) 0 = false := by have := lt_F pl_zero pl_zero; rw [F_zero] at *; rw [this]; rfl
      have e2 : M0.eq (F 0) 0 = true := by have := eq_F pl_zero pl_zero; rw [F_zero] at *; rw [this]; rfl
      rw [e1, e2]; rfl
    · unfold round_Sqrt.ok
      rw [number_F pl_zero, decide_eq_true nm_zero, numberok_F pl_zero]
      have e1 : M0.lt (F 0) 0 = false := by have := lt_F pl_zero pl_zero; rw [F_zero] at *; rw [this]; rfl
      have e2 : M0.eq (F 0) 0 = true := by have := eq_F pl_zero pl_zero; rw [F_zero] at *; rw [this]; rfl
      rw [e1, e2]; rfl
    · rw [Wi_zero]; omega
    · rw [Wi_zero]; omega
    · have h1 := Wi_neg_iff.2 ht
      have := hP.1
      omega

end Go.Lan
