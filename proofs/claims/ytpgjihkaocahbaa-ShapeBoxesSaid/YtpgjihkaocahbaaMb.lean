/- The words of floats: by sign and rung; order, sums and products that are floats. -/
import Derived.Test.YtpgjihkaocahbaaMa
import Derived.Test.YtpgjihkaocahbaaKq
namespace Go.Lan

abbrev D := Ieee.double
theorem D_sw : D.signWeight = 9223372036854775808 := by decide
theorem D_bin : D.binade = B := by decide
theorem D_inf : D.infRung = I := by decide
theorem D_lp : D.leastPlace = -1074 := by decide
theorem I_eq : I = 9218868437227405312 := by decide

/-- The word of a sign and a rung. -/
def wd (neg : Bool) (r : Nat) : Nat := if neg then 9223372036854775808 + r else r
theorem wd_eq (neg : Bool) (r : Nat) : D.word neg r = wd neg r := by
  unfold Ieee.Format.word wd
  rw [D_sw]

theorem wd_split {x : Nat} (h : x < 18446744073709551616) : ∃ neg r, x = wd neg r ∧ r < 9223372036854775808 := by
  rcases Nat.lt_or_ge x 9223372036854775808 with h1 | h1
  · exact ⟨false, x, rfl, h1⟩
  · exact ⟨true, x - 9223372036854775808, by simp [wd]; omega, by omega⟩

def sg (neg : Bool) (v : Nat) : Int := if neg then -(v : Int) else v

theorem sg_mul (n : Bool) (a b : Nat) : sg n (a * b) = sg n a * b := by
  cases n
  · simp [sg]
  · simp [sg, Int.neg_mul]
theorem sg_lt {n : Bool} {v : Nat} : sg n v < 0 ↔ n = true ∧ v ≠ 0 := by cases n <;> simp [sg] <;> omega
theorem sg_eqz {n : Bool} {v : Nat} : sg n v = 0 ↔ v = 0 := by cases n <;> simp [sg]
theorem sg_neg (n : Bool) (v : Nat) : sg (!n) v = -(sg n v) := by cases n <;> simp [sg]
theorem sg_abs (n : Bool) (v : Nat) : (sg n v).natAbs = v := by cases n <;> simp [sg]
theorem V_eqz {r : Nat} : V r = 0 ↔ r = 0 := ⟨fun h => by have := le_V r; omega, fun h => by rw [h]; rfl⟩
theorem sg_zero (n : Bool) : sg n 0 = 0 := by cases n <;> rfl

theorem read_wd {neg : Bool} {r : Nat} (h : r < 9223372036854775808) : D.read (wd neg r) =
    if r < B then .number neg r (-1074) else if r < I then .number neg (B + r % B) (-1074 + (r / B - 1 : Nat)) else if r = I then .infinity neg else .nan neg (r - I) := by
  unfold Ieee.Format.read
  have h1 : wd neg r % D.signWeight = r := by
    rw [D_sw]; unfold wd
    split <;> omega
  have h2 : (wd neg r / D.signWeight % 2 == 1) = neg := by
    rw [D_sw]; unfold wd
    cases neg
    · simp
      omega
    · simp
      omega
  simp only [h1, h2, D_bin, D_inf, D_lp]

/-- A finite word, read. -/
theorem read_fin {neg : Bool} {r : Nat} (h : r < I) : ∃ (m e : Nat), D.read (wd neg r) = .number neg m (-1074 + e) ∧ V r = m * 2 ^ e ∧ (m = 0 ↔ r = 0) ∧ r = e * B + m ∧ m < 2 * B ∧ (e = 0 ∨ B ≤ m) := by
  have hI := I_eq
  rw [read_wd (by omega)]
  have hB := B_pos
  by_cases h1 : r < B
  · refine ⟨r, 0, by rw [if_pos h1]; rfl, ?_, Iff.rfl, by omega, by omega, .inl rfl⟩
    unfold V
    rw [if_pos h1, Nat.pow_zero, Nat.mul_one]
  · refine ⟨B + r % B, r / B - 1, by rw [if_neg h1, if_pos h], ?_, by omega, ?_, ?_, .inr (by omega)⟩
    · unfold V
      rw [if_neg h1]
    · have h2 := Nat.div_add_mod r B
      have h3 : 1 ≤ r / B := (Nat.le_div_iff_mul_le hB).2 (by omega)
      rw [Nat.sub_mul, Nat.mul_comm (r / B)]
      have : B * 1 ≤ B * (r / B) := Nat.mul_le_mul_left _ h3
      omega
    · have := Nat.mod_lt r hB
      omega

theorem read_inf (neg : Bool) : D.read (wd neg I) = .infinity neg := by
  rw [read_wd (by decide), if_neg (by decide), if_neg (by decide), if_pos rfl]

theorem signed_eq (neg : Bool) (m up : Nat) : Ieee.signed neg m up = sg neg (m * 2 ^ up) := by
  unfold Ieee.signed sg
  rw [Nat.shiftLeft_eq]

theorem compare_int_lt {a b : Int} : compare a b = .lt ↔ a < b := by
  show compareOfLessAndEq a b = .lt ↔ _
  unfold compareOfLessAndEq
  split
  · simp_all
  · split <;> simp_all
theorem compare_int_eq {a b : Int} : compare a b = .eq ↔ a = b := by
  show compareOfLessAndEq a b = .eq ↔ _
  unfold compareOfLessAndEq
  split
  · rename_i h
    simp only [reduceCtorEq, false_iff]
    omega
  · split <;> simp_all
theorem compare_int_gt {a b : Int} : compare a b = .gt ↔ b < a := by
  show compareOfLessAndEq a b = .gt ↔ _
  unfold compareOfLessAndEq
  split
  · rename_i h
    simp only [reduceCtorEq, false_iff]
    omega
  · split
    · simp_all
    · simp only [true_iff]; omega

theorem compare_eq {a b c d : Int} (h1 : a < b ↔ c < d) (h2 : a = b ↔ c = d) : compare a b = compare c d := by
  cases h : compare c d with
  | lt => rw [compare_int_lt] at h ⊢; exact h1.2 h
  | eq => rw [compare_int_eq] at h ⊢; exact h2.2 h
  | gt =>
    rw [compare_int_gt] at h ⊢
    have e1 : ¬ c < d := by omega
    have e2 : ¬ c = d := by omega
    rw [← h1] at e1
    rw [← h2] at e2
    omega

/-- Where a word stands among all. -/
def K (neg : Bool) (r : Nat) : Int := sg neg r

theorem sg_V {n1 n2 : Bool} {r1 r2 : Nat} : (sg n1 (V r1) < sg n2 (V r2) ↔ K n1 r1 < K n2 r2) ∧ (sg n1 (V r1) = sg n2 (V r2) ↔ K n1 r1 = K n2 r2) := by
  have z : ∀ r, V r = 0 ↔ r = 0 := fun r => ⟨fun h => by have := le_V r; omega, fun h => by rw [h]; rfl⟩
  have l1 := @V_lt_iff r1 r2
  have l2 := @V_lt_iff r2 r1
  have z1 := z r1
  have z2 := z r2
  have i1 : V r1 = V r2 ↔ r1 = r2 := ⟨V_inj, fun h => by rw [h]⟩
  cases n1 <;> cases n2 <;> simp [sg, K] <;> omega

theorem order_fin {n1 n2 : Bool} {r1 r2 : Nat} (h1 : r1 < I) (h2 : r2 < I) : D.order (wd n1 r1) (wd n2 r2) = some (compare (K n1 r1) (K n2 r2)) := by
  obtain ⟨m1, e1, q1, v1, _⟩ := read_fin (neg := n1) h1
  obtain ⟨m2, e2, q2, v2, _⟩ := read_fin (neg := n2) h2
  unfold Ieee.Format.order
  rw [q1, q2]
  unfold Ieee.Datum.order
  dsimp only
  rw [signed_eq, signed_eq]
  congr 1
  have hb : ∃ b : Nat, min (-1074 + (e1 : Int)) (-1074 + (e2 : Int)) = -1074 + (b : Int) ∧ b ≤ e1 ∧ b ≤ e2 := ⟨min e1 e2, by omega, by omega, by omega⟩
  obtain ⟨b, hb, l1, l2⟩ := hb
  rw [hb, show (-1074 + (e1 : Int) - (-1074 + (b : Int))).toNat = e1 - b by omega, show (-1074 + (e2 : Int) - (-1074 + (b : Int))).toNat = e2 - b by omega]
  have hp : (0 : Int) < (2 ^ b : Nat) := by exact_mod_cast Nat.two_pow_pos b
  have k1 : sg n1 (V r1) = sg n1 (m1 * 2 ^ (e1 - b)) * (2 ^ b : Nat) := by
    rw [v1, show m1 * 2 ^ e1 = m1 * 2 ^ (e1 - b) * 2 ^ b by rw [Nat.mul_assoc, ← Nat.pow_add]; congr 2; omega]
    exact sg_mul _ _ _
  have k2 : sg n2 (V r2) = sg n2 (m2 * 2 ^ (e2 - b)) * (2 ^ b : Nat) := by
    rw [v2, show m2 * 2 ^ e2 = m2 * 2 ^ (e2 - b) * 2 ^ b by rw [Nat.mul_assoc, ← Nat.pow_add]; congr 2; omega]
    exact sg_mul _ _ _
  refine compare_eq ?_ ?_
  · rw [← sg_V.1, k1, k2]
    exact (Int.mul_lt_mul_right hp).symm
  · rw [← sg_V.2, k1, k2]
    exact (Int.mul_eq_mul_right_iff (by omega)).symm

theorem order_wd {n1 n2 : Bool} {r1 r2 : Nat} (h1 : r1 ≤ I) (h2 : r2 ≤ I) : D.order (wd n1 r1) (wd n2 r2) = some (compare (K n1 r1) (K n2 r2)) := by
  rcases Nat.lt_or_ge r1 I with a1 | a1
  · rcases Nat.lt_or_ge r2 I with a2 | a2
    · exact order_fin a1 a2
    · have : r2 = I := by omega
      subst this
      obtain ⟨m1, e1, q1, _⟩ := read_fin (neg := n1) a1
      unfold Ieee.Format.order
      rw [q1, read_inf]
      simp only [Ieee.Datum.order]
      cases n2
      · have : compare (K n1 r1) (K false I) = .lt := compare_int_lt.2 (by cases n1 <;> simp [K, sg] <;> omega)
        rw [this]; rfl
      · have : compare (K n1 r1) (K true I) = .gt := compare_int_gt.2 (by cases n1 <;> simp [K, sg] <;> omega)
        rw [this]; rfl
  · have : r1 = I := by omega
    subst this
    rcases Nat.lt_or_ge r2 I with a2 | a2
    · obtain ⟨m1, e1, q1, _⟩ := read_fin (neg := n2) a2
      unfold Ieee.Format.order
      rw [q1, read_inf]
      simp only [Ieee.Datum.order]
      cases n1
      · have : compare (K false I) (K n2 r2) = .gt := compare_int_gt.2 (by cases n2 <;> simp [K, sg] <;> omega)
        rw [this]; rfl
      · have : compare (K true I) (K n2 r2) = .lt := compare_int_lt.2 (by cases n2 <;> simp [K, sg] <;> omega)
        rw [this]; rfl
    · have : r2 = I := by omega
      subst this
      unfold Ieee.Format.order
      rw [read_inf, read_inf]
      simp only [Ieee.Datum.order]
      cases n1 <;> cases n2
      · rw [show compare (K false I) (K false I) = .eq from compare_int_eq.2 rfl]; rfl
      · rw [show compare (K false I) (K true I) = .gt from compare_int_gt.2 (by simp [K, sg]; have := I_eq; omega)]; rfl
      · rw [show compare (K true I) (K false I) = .lt from compare_int_lt.2 (by simp [K, sg]; have := I_eq; omega)]; rfl
      · rw [show compare (K true I) (K true I) = .eq from compare_int_eq.2 rfl]; rfl

theorem order_nan {neg : Bool} {r : Nat} (h : I < r) (h2 : r < 9223372036854775808) (y : Nat) : D.order (wd neg r) y = none ∧ D.order y (wd neg r) = none := by
  have hr : D.read (wd neg r) = .nan neg (r - I) := by
    rw [read_wd h2, if_neg (by have : B < I := by decide
                               omega), if_neg (by omega), if_neg (by omega)]
  unfold Ieee.Format.order
  rw [hr]
  constructor
  · rfl
  · cases D.read y <;> rfl

/-! ### Floats as whole numbers -/
/-- The word of a place; a nought is +0. -/
def F (s : Int) : Nat := if s < 0 then wd true (-s).toNat else wd false s.toNat

theorem F_wd (s : Int) : F s = wd (decide (s < 0)) s.natAbs := by
  unfold F
  by_cases h : s < 0
  · rw [if_pos h, decide_eq_true h]; congr 1; omega
  · rw [if_neg h, decide_eq_false h]; congr 1; omega
theorem K_F (s : Int) : K (decide (s < 0)) s.natAbs = s := by
  by_cases h : s < 0
  · simp [K, sg, h]; omega
  · simp [K, sg, h]; omega

/-- Is it a place? -/
def pl (s : Int) : Prop := -(I : Int) ≤ s ∧ s ≤ I
/-- Of a number? -/
def nm (s : Int) : Prop := -(I : Int) < s ∧ s < I
theorem nm.pl {s : Int} (h : nm s) : pl s := ⟨by have := h.1; omega, by have := h.2; omega⟩

theorem order_F {s t : Int} (h1 : pl s) (h2 : pl t) : D.order (F s) (F t) = some (compare s t) := by
  rw [F_wd, F_wd, order_wd (by have := h1.1; have := h1.2; omega) (by have := h2.1; have := h2.2; omega), K_F, K_F]

theorem F_inj {s t : Int} (h1 : pl s) (h2 : pl t) (h : F s = F t) : s = t := by
  have h3 := order_F h1 h2
  rw [h, order_F h2 h2] at h3
  have := compare_int_eq.2 (rfl : t = t)
  rw [this] at h3
  exact compare_int_eq.1 (Option.some.inj h3).symm

section
variable {s t : Int}
theorem lt_F (h1 : pl s) (h2 : pl t) : M0.lt (F s) (F t) = decide (s < t) := by
  show (D.order (F s) (F t) == some .lt) = _
  rw [order_F h1 h2, Bool.eq_iff_iff]
  simp [compare_int_lt]
theorem le_F (h1 : pl s) (h2 : pl t) : M0.le (F s) (F t) = decide (s ≤ t) := by
  show (D.order (F s) (F t) == some .lt || D.order (F s) (F t) == some .eq) = _
  rw [order_F h1 h2, Bool.eq_iff_iff]
  simp only [Bool.or_eq_true, beq_iff_eq, Option.some.injEq, compare_int_lt, compare_int_eq, decide_eq_true_eq]
  omega
theorem gt_F (h1 : pl s) (h2 : pl t) : M0.gt (F s) (F t) = decide (t < s) := by
  show (D.order (F s) (F t) == some .gt) = _
  rw [order_F h1 h2, Bool.eq_iff_iff]
  simp [compare_int_gt]
theorem ge_F (h1 : pl s) (h2 : pl t) : M0.ge (F s) (F t) = decide (t ≤ s) := by
  show (D.order (F s) (F t) == some .gt || D.order (F s) (F t) == some .eq) = _
  rw [order_F h1 h2, Bool.eq_iff_iff]
  simp only [Bool.or_eq_true, beq_iff_eq, Option.some.injEq, compare_int_gt, compare_int_eq, decide_eq_true_eq]
  omega
theorem eq_F (h1 : pl s) (h2 : pl t) : M0.eq (F s) (F t) = decide (s = t) := by
  show (D.order (F s) (F t) == some .eq) = _
  rw [order_F h1 h2, Bool.eq_iff_iff]
  simp only [beq_iff_eq, Option.some.injEq, compare_int_eq, decide_eq_true_eq]
theorem ne_F (h1 : pl s) (h2 : pl t) : M0.ne (F s) (F t) = decide (s ≠ t) := by
  show (D.order (F s) (F t) != some .eq) = _
  rw [order_F h1 h2, Bool.eq_iff_iff]
  simp only [bne_iff_ne, ne_eq, Option.some.injEq, compare_int_eq, decide_eq_true_eq]
theorem min_F (h1 : pl s) (h2 : pl t) : M0.min (F s) (F t) = F (min s t) := by
  show (match D.order (F s) (F t) with | none => nanW | some .lt => F s | some .gt => F t | some .eq => if (FloatKind.f64.decode (F s)).neg then F s else F t) = _
  rw [order_F h1 h2]
  cases h : compare s t with
  | lt => rw [compare_int_lt] at h; rw [Int.min_eq_left (by omega)]
  | gt => rw [compare_int_gt] at h; rw [Int.min_eq_right (by omega)]
  | eq => rw [compare_int_eq] at h; subst h; rw [Int.min_self]; simp
theorem max_F (h1 : pl s) (h2 : pl t) : M0.max (F s) (F t) = F (max s t) := by
  show (match D.order (F s) (F t) with | none => nanW | some .lt => F t | some .gt => F s | some .eq => if (FloatKind.f64.decode (F s)).neg then F t else F s) = _
  rw [order_F h1 h2]
  cases h : compare s t with
  | lt => rw [compare_int_lt] at h; rw [Int.max_eq_right (by omega)]
  | gt => rw [compare_int_gt] at h; rw [Int.max_eq_left (by omega)]
  | eq => rw [compare_int_eq] at h; subst h; rw [Int.max_self]; simp
end

/-! ### Sums and products that are floats -/
theorem nearest_V {neg : Bool} {r : Nat} (h : r < I) : D.nearest neg (V r) (-1074) = wd neg r := by
  rw [← wd_eq]
  exact nearest_exact neg h (k := 0) (j := 0) (by omega) (by simp)

theorem write_exact {neg : Bool} {r mag : Nat} {place : Int} (hr : r < I) {k j : Nat} (hp : place = (k : Int) - j - 1074) (h : mag * 2 ^ k = V r * 2 ^ j) : D.write (.number neg mag place) = wd neg r := by
  rw [← wd_eq]
  exact nearest_exact neg hr hp h

theorem write_inf (neg : Bool) : D.write (.infinity neg) = wd neg I := by
  show D.word neg D.infRung = _
  rw [wd_eq, D_inf]

theorem zero_wd : (0 : Nat) = wd false 0 := rfl
theorem F_zero : F 0 = 0 := rfl

theorem read_zero : D.read 0 = .number false 0 (-1074) := by decide

theorem add_zero_wd {neg : Bool} {r : Nat} (h : r ≤ I) : D.add (wd neg r) 0 = some (F (K neg r)) := by
  unfold Ieee.Format.add
  rw [read_zero]
  rcases Nat.lt_or_ge r I with a | a
  · obtain ⟨m, e, q, v, hz, _⟩ := read_fin (neg := neg) a
    rw [q]
    simp only [Ieee.Datum.sum]
    rw [signed_eq, signed_eq, Nat.zero_mul, sg_zero, Int.add_zero]
    have hb : min (-1074 + (e : Int)) (-1074) = -1074 := by omega
    rw [hb, show (-1074 + (e : Int) - -1074).toNat = e by omega, ← v]
    simp only [Option.map_some, Option.some.injEq]
    rw [F_wd]
    have habs := sg_abs neg (V r)
    rw [habs]
    unfold Ieee.Format.write
    dsimp only
    have hneg : (if sg neg (V r) = 0 then (neg && false) else decide (sg neg (V r) < 0)) = decide (K neg r < 0) := by
      rw [Bool.eq_iff_iff]
      split
      · rename_i h0
        rw [sg_eqz, V_eqz] at h0
        subst h0
        simp [K, sg_zero]
      · simp only [decide_eq_true_eq, K, sg_lt, ne_eq, V_eqz]
    rw [hneg, nearest_V a]
    congr 1
    cases neg <;> simp [K, sg]
  · have : r = I := by omega
    subst this
    rw [read_inf]
    simp only [Ieee.Datum.sum, Option.map_some, Option.some.injEq]
    rw [write_inf, F_wd, K, sg_abs]
    congr 1
    rw [Bool.eq_iff_iff, decide_eq_true_eq, sg_lt]
    simp [show I ≠ 0 by decide]

theorem sub_zero_wd {neg : Bool} {r : Nat} (h : r ≤ I) : D.sub 0 (wd neg r) = some (F (-(K neg r))) := by
  unfold Ieee.Format.sub
  rw [read_zero]
  rcases Nat.lt_or_ge r I with a | a
  · obtain ⟨m, e, q, v, hz, _⟩ := read_fin (neg := neg) a
    rw [q]
    simp only [Ieee.Datum.sum, Ieee.Datum.opposite]
    rw [signed_eq, signed_eq, Nat.zero_mul, sg_zero, Int.zero_add]
    have hb : min (-1074) (-1074 + (e : Int)) = -1074 := by omega
    rw [hb, show (-1074 + (e : Int) - -1074).toNat = e by omega, ← v]
    simp only [Option.map_some, Option.some.injEq]
    rw [F_wd]
    have habs := sg_abs (!neg) (V r)
    rw [habs]
    unfold Ieee.Format.write
    dsimp only
    have hneg : (if sg (!neg) (V r) = 0 then (false && !neg) else decide (sg (!neg) (V r) < 0)) = decide (-(K neg r) < 0) := by
      rw [show -(K neg r) = sg (!neg) r from (sg_neg neg r).symm, Bool.eq_iff_iff]
      split
      · rename_i h0
        rw [sg_eqz, V_eqz] at h0
        subst h0
        simp [sg_zero]
      · simp only [decide_eq_true_eq, sg_lt, ne_eq, V_eqz]
    rw [hneg, nearest_V a]
    congr 1
    cases neg <;> simp [K, sg]
  · have : r = I := by omega
    subst this
    rw [read_inf]
    simp only [Ieee.Datum.sum, Ieee.Datum.opposite, Option.map_some, Option.some.injEq]
    rw [write_inf, F_wd, show -(K neg I) = sg (!neg) I from (sg_neg neg I).symm, sg_abs]
    congr 1
    rw [Bool.eq_iff_iff, decide_eq_true_eq, sg_lt]
    simp [show I ≠ 0 by decide]

theorem plain_wd {neg : Bool} {r : Nat} (h : r ≤ I) : M0.add (wd neg r) 0 = F (K neg r) := by
  show (D.add (wd neg r) 0).getD nanW = _
  rw [add_zero_wd h]; rfl

theorem neg_F {s : Int} (h : pl s) : M0.sub 0 (F s) = F (-s) := by
  have hr : s.natAbs ≤ I := by have := h.1; have := h.2; omega
  have e := sub_zero_wd (neg := decide (s < 0)) hr
  rw [K_F, ← F_wd] at e
  show (D.sub 0 (F s)).getD nanW = _
  rw [e]; rfl

/-- No NaN. -/
theorem notNaN_wd {neg : Bool} {r : Nat} (h : r ≤ I) : isNaNw (wd neg r) = false := by
  show (D.read (wd neg r)).isNaN = false
  have hI := I_eq
  rw [read_wd (by omega)]
  by_cases h1 : r < B
  · rw [if_pos h1]; rfl
  · rw [if_neg h1]
    by_cases h2 : r < I
    · rw [if_pos h2]; rfl
    · rw [if_neg h2, if_pos (by omega)]; rfl
theorem neW_wd {neg : Bool} {r : Nat} (h : r ≤ I) : (!Nat.beq (wd neg r) nanW) = true := by
  have h1 := notNaN_wd (neg := neg) h
  cases hb : Nat.beq (wd neg r) nanW with
  | false => rfl
  | true =>
    rw [Nat.eq_of_beq_eq_true hb, nanW_nan] at h1
    cases h1

theorem xor_top (r : Nat) (h : r < 9223372036854775808) : r ^^^ 9223372036854775808 = 9223372036854775808 + r ∧ (9223372036854775808 + r) ^^^ 9223372036854775808 = r := by
  have h1 : r ^^^ 9223372036854775808 = 9223372036854775808 + r := by
    have := Nat.two_pow_add_eq_or_of_lt (i := 63) (b := r) (by simpa using h) 1
    simp only [Nat.mul_one] at this
    have e : (9223372036854775808 : Nat) = 2 ^ 63 := by decide
    rw [e, this]
    refine Nat.eq_of_testBit_eq fun i => ?_
    rw [Nat.testBit_xor, Nat.testBit_or, Nat.testBit_two_pow]
    by_cases hi : 63 = i
    · subst hi
      rw [Nat.testBit_lt_two_pow (by simpa using h)]
      simp
    · simp [hi]
  refine ⟨h1, ?_⟩
  rw [← h1, Nat.xor_assoc, Nat.xor_self, Nat.xor_zero]

theorem neg_wd {neg : Bool} {r : Nat} (hI : r ≤ I) : M0.neg (wd neg r) = wd (!neg) r := by
  have h : r < 9223372036854775808 := by have := I_eq; omega
  show cond (isNaNw (wd neg r)) nanW (wd neg r ^^^ 2 ^ (D.exponentBits + D.fractionBits)) = _
  rw [notNaN_wd hI, cond_false]
  rw [show 2 ^ (D.exponentBits + D.fractionBits) = 9223372036854775808 by decide]
  obtain ⟨h1, h2⟩ := xor_top r h
  cases neg
  · exact h1
  · exact h2

end Go.Lan
