/- Words and places; spans that are valid; spans chosen within others; vectors. -/
import Derived.Test.YtpgjihkaocahbaaMw
namespace Go.Lan

attribute [local irreducible] B

/-! ### Words -/
/-- The word x stands at the place s (a nought may be -0). -/
def At (x : Nat) (s : Int) : Prop := ∃ n r, r ≤ I ∧ x = wd n r ∧ s = K n r
theorem At_F {s : Int} (h : pl s) : At (F s) s := ⟨decide (s < 0), s.natAbs, pl_abs h, F_wd s, (K_F s).symm⟩
theorem At.pl {x : Nat} {s : Int} (h : At x s) : pl s := by
  obtain ⟨n, r, h1, _, rfl⟩ := h
  unfold Go.Lan.pl K
  cases n
  · rw [sgf]; omega
  · rw [sgt]; omega
theorem At.order {x y : Nat} {s t : Int} (h : At x s) (k : At y t) : D.order x y = some (compare s t) := by
  obtain ⟨n, r, h1, rfl, rfl⟩ := h
  obtain ⟨m, q, k1, rfl, rfl⟩ := k
  exact order_wd h1 k1
theorem At.lt {x y : Nat} {s t : Int} (h : At x s) (k : At y t) : M0.lt x y = decide (s < t) := by
  show (D.order x y == some .lt) = _
  rw [h.order k, Bool.eq_iff_iff]
  simp [compare_int_lt]
theorem At.gt {x y : Nat} {s t : Int} (h : At x s) (k : At y t) : M0.gt x y = decide (t < s) := by
  show (D.order x y == some .gt) = _
  rw [h.order k, Bool.eq_iff_iff]
  simp [compare_int_gt]
theorem At.le {x y : Nat} {s t : Int} (h : At x s) (k : At y t) : M0.le x y = decide (s ≤ t) := by
  show (D.order x y == some .lt || D.order x y == some .eq) = _
  rw [h.order k, Bool.eq_iff_iff]
  simp only [Bool.or_eq_true, beq_iff_eq, Option.some.injEq, compare_int_lt, compare_int_eq, decide_eq_true_eq]
  omega
theorem At.ge {x y : Nat} {s t : Int} (h : At x s) (k : At y t) : M0.ge x y = decide (t ≤ s) := by
  show (D.order x y == some .gt || D.order x y == some .eq) = _
  rw [h.order k, Bool.eq_iff_iff]
  simp only [Bool.or_eq_true, beq_iff_eq, Option.some.injEq, compare_int_gt, compare_int_eq, decide_eq_true_eq]
  omega
theorem At.eq {x y : Nat} {s t : Int} (h : At x s) (k : At y t) : M0.eq x y = decide (s = t) := by
  show (D.order x y == some .eq) = _
  rw [h.order k, Bool.eq_iff_iff]
  simp only [beq_iff_eq, Option.some.injEq, compare_int_eq, decide_eq_true_eq]
theorem At.ne {x y : Nat} {s t : Int} (h : At x s) (k : At y t) : M0.ne x y = decide (s ≠ t) := by
  show (D.order x y != some .eq) = _
  rw [h.order k, Bool.eq_iff_iff]
  simp only [bne_iff_ne, ne_eq, Option.some.injEq, compare_int_eq, decide_eq_true_eq]
theorem At.plain {x : Nat} {s : Int} (h : At x s) : M0.add x 0 = F s := by
  obtain ⟨n, r, h1, rfl, rfl⟩ := h
  exact plain_wd h1
theorem At.notNaN {x : Nat} {s : Int} (h : At x s) : isNaNw x = false := by
  obtain ⟨n, r, h1, rfl, rfl⟩ := h
  exact notNaN_wd h1
theorem At.bits {x : Nat} {s : Int} (h : At x s) : f64bits.ok x = true := by
  obtain ⟨n, r, h1, rfl, rfl⟩ := h
  exact bitsok_wd h1
/-- Of one place there is one word, but for -0. -/
theorem At.word {x : Nat} {s : Int} (h : At x s) : x = F s ∨ (s = 0 ∧ x = wd true 0) := by
  obtain ⟨n, r, h1, rfl, rfl⟩ := h
  cases n
  · left; exact (F_nat r).symm
  · rcases Nat.eq_zero_or_pos r with h0 | h0
    · subst h0; exact .inr ⟨rfl, rfl⟩
    · left
      unfold K
      rw [sgt, F_wd, decide_eq_true (by omega)]
      congr 1
      omega

/-- Every word stands at a place or is a NaN. -/
theorem word_at {x : Nat} (h : x < m64) : (∃ s, At x s) ∨ isNaNw x = true := by
  have hm := hm64
  have hI := I_eq
  obtain ⟨n, r, rfl, hr⟩ := wd_split (x := x) (by omega)
  rcases Nat.lt_or_ge I r with h1 | h1
  · right
    show (D.read (wd n r)).isNaN = true
    have hB : B < I := by rw [I_eq, B_val]; decide
    rw [read_wd hr, if_neg (by omega), if_neg (by omega), if_neg (by omega)]
    rfl
  · exact .inl ⟨_, n, r, h1, rfl, rfl⟩

theorem nan_cmp {x : Nat} (h : isNaNw x = true) (y : Nat) : M0.le x y = false ∧ M0.le y x = false ∧ M0.ge x y = false ∧ M0.ge y x = false ∧ M0.lt x y = false ∧ M0.lt y x = false ∧ M0.gt x y = false ∧ M0.gt y x = false ∧ M0.eq x y = false ∧ M0.eq y x = false := by
  obtain ⟨h1, h2⟩ := nan_order x y h
  have e1 : D.order x y = none := h1
  have e2 : D.order y x = none := h2
  refine ⟨?_, ?_, ?_, ?_, ?_, ?_, ?_, ?_, ?_, ?_⟩
  · show (D.order x y == some .lt || D.order x y == some .eq) = _; rw [e1]; rfl
  · show (D.order y x == some .lt || D.order y x == some .eq) = _; rw [e2]; rfl
  · show (D.order x y == some .gt || D.order x y == some .eq) = _; rw [e1]; rfl
  · show (D.order y x == some .gt || D.order y x == some .eq) = _; rw [e2]; rfl
  · show (D.order x y == some .lt) = _; rw [e1]; rfl
  · show (D.order y x == some .lt) = _; rw [e2]; rfl
  · show (D.order x y == some .gt) = _; rw [e1]; rfl
  · show (D.order y x == some .gt) = _; rw [e2]; rfl
  · show (D.order x y == some .eq) = _; rw [e1]; rfl
  · show (D.order y x == some .eq) = _; rw [e2]; rfl

/-- What an operation writes. -/
theorem write_at (d : Ieee.Datum) (h : ∀ n f, d ≠ .nan n f) : ∃ s, At (D.write d) s := by
  cases d with
  | nan n f => exact absurd rfl (h n f)
  | infinity n => exact ⟨_, n, I, Nat.le_refl _, write_inf n, rfl⟩
  | number n m p =>
    show ∃ s, At (D.nearest n m p) s
    unfold Ieee.Format.nearest
    by_cases h0 : m = 0
    · rw [if_pos h0, wd_eq]; exact ⟨_, n, 0, Nat.zero_le _, rfl, rfl⟩
    · rw [if_neg h0]
      dsimp only
      rw [wd_eq, D_inf]
      exact ⟨_, n, _, Nat.min_le_right _ _, rfl, rfl⟩
theorem sum_notNaN {a b d : Ieee.Datum} (h : a.sum b = some d) : ∀ n f, d ≠ .nan n f := by
  intro n f e
  subst e
  cases a <;> cases b <;> simp only [Ieee.Datum.sum, reduceCtorEq, Option.some.injEq] at h
  split at h <;> simp_all
theorem add_word (x y : Nat) : M0.add x y = nanW ∨ ∃ s, At (M0.add x y) s := by
  show ((((D.read x).sum (D.read y)).map D.write).getD nanW = nanW) ∨ ∃ s, At ((((D.read x).sum (D.read y)).map D.write).getD nanW) s
  cases h : (D.read x).sum (D.read y) with
  | none => exact .inl rfl
  | some d => exact .inr (write_at d (sum_notNaN h))

/-! ### Valid spans -/
theorem refInf : lanternref01_Inf M0 = F I := by
  rw [← inf_hi]; rfl
theorem neg_at {x : Nat} {s : Int} (h : At x s) : At (M0.neg x) (-s) := by
  obtain ⟨n, r, h1, rfl, rfl⟩ := h
  refine ⟨!n, r, h1, neg_wd h1, ?_⟩
  exact (sg_neg n r).symm
theorem minus_at {x : Nat} {s : Int} (h : At x s) : (lanternref02_minus M0 x = true ↔ x = wd true 0) ∧ lanternref02_minus.ok M0 x = true := by
  unfold lanternref02_minus lanternref02_minus.ok
  have e : M0.eq x 0 = decide (s = 0) := h.eq (At_F pl_zero)
  rw [e, h.bits]
  by_cases h0 : s = 0
  · rw [decide_eq_true h0]
    refine ⟨?_, rfl⟩
    subst h0
    rcases h.word with rfl | ⟨_, rfl⟩
    · constructor
      · intro h1; simp [F_zero, f64bits] at h1
      · intro h1; rw [F_zero] at h1; simp [wd] at h1
    · simp [f64bits, wd]
  · rw [decide_eq_false h0]
    refine ⟨⟨fun h1 => (by cases h1), fun h1 => ?_⟩, rfl⟩
    subst h1
    rcases h.word with h2 | h2
    · obtain ⟨n, r, k1, k2, rfl⟩ := h
      exfalso
      have : D.order (wd true 0) (wd true 0) = _ := order_wd (Nat.zero_le _) (Nat.zero_le _)
      have e2 : D.order (wd n r) (wd n r) = _ := order_wd k1 k1
      have : M0.eq (wd true 0) 0 = true := by
        show (D.order (wd true 0) (wd false 0) == some .eq) = true
        rw [order_wd (Nat.zero_le _) (Nat.zero_le _)]; rfl
      rw [this, decide_eq_false h0] at e
      cases e
    · exact absurd h2.1 h0

/-- A span whose ends are words. -/
def W2 (a : LSpan) : Prop := a.lo < m64 ∧ a.hi < m64
theorem valid_sv {a : LSpan} (hw : W2 a) : (lanternref02_Valid M0 a = true → SVs a) ∧ lanternref02_Valid.ok M0 a = true := by
  have hI := I_pos
  have pI : pl (I : Int) := ⟨by omega, by omega⟩
  have aI := At_F pI
  have anI : At (M0.neg (F I)) (-(I : Int)) := neg_at aI
  unfold lanternref02_Valid lanternref02_Valid.ok
  rw [refInf]
  rcases word_at hw.1 with ⟨l, hl⟩ | hl
  · rcases word_at hw.2 with ⟨h, hh⟩ | hh
    · rw [hl.le hh, hl.ne aI, hh.ne anI, (minus_at hl).2, (minus_at hh).2]
      have m1 := (minus_at hl).1
      have m2 := (minus_at hh).1
      constructor
      · intro hv
        by_cases c1 : l ≤ h
        · rw [decide_eq_true c1, cond_true] at hv
          by_cases c2 : l ≠ (I : Int)
          · rw [decide_eq_true c2, cond_true] at hv
            by_cases c3 : h ≠ -(I : Int)
            · rw [decide_eq_true c3, cond_true] at hv
              have n1 : lanternref02_minus M0 a.lo = false := by
                cases hm : lanternref02_minus M0 a.lo with
                | false => rfl
                | true => rw [hm] at hv; cases hv
              have n2 : lanternref02_minus M0 a.hi = false := by
                cases hm : lanternref02_minus M0 a.hi with
                | false => rfl
                | true => rw [n1, hm] at hv; cases hv
              have p1 := hl.pl
              have p2 := hh.pl
              refine ⟨l, h, ⟨?_, ?_, c1, p1.1, by have := p1.2; omega, by have := p2.1; omega, p2.2⟩⟩
              · rcases hl.word with h1 | h1
                · exact h1
                · rw [m1.2 h1.2] at n1; cases n1
              · rcases hh.word with h1 | h1
                · exact h1
                · rw [m2.2 h1.2] at n2; cases n2
            · rw [decide_eq_false c3] at hv; cases hv
          · rw [decide_eq_false c2] at hv; cases hv
        · rw [decide_eq_false c1] at hv; cases hv
      · cases decide (l ≤ h) <;> cases decide (l ≠ (I : Int)) <;> cases decide (h ≠ -(I : Int)) <;> cases lanternref02_minus M0 a.lo <;> rfl
    · rw [(nan_cmp hh _).2.1]
      exact ⟨fun h => (by cases h), rfl⟩
  · rw [(nan_cmp hl _).1]
    exact ⟨fun h => (by cases h), rfl⟩

/-! ### A number of a span -/
theorem sub_self {s : Int} (h : nm s) : M0.sub (F s) (F s) = 0 := by
  show (((D.read (F s)).sum (D.read (F s)).opposite).map D.write).getD nanW = 0
  obtain ⟨m, e, q, _⟩ := read_fin (neg := decide (s < 0)) (nm_abs h)
  rw [F_wd, q]
  simp only [Ieee.Datum.opposite, Ieee.Datum.sum, Int.min_self, Int.sub_self, Int.toNat_zero, Option.map_some, Option.getD_some]
  rw [signed_eq, signed_eq, Nat.pow_zero, Nat.mul_one, sg_neg, Int.add_right_neg]
  cases decide (s < 0) <;> simp [Ieee.Format.write, Ieee.Format.nearest, wd_eq, wd]
theorem refNumber {s : Int} (h : pl s) : lanternref01_Number M0 (F s) = decide (nm s) := by
  unfold lanternref01_Number
  by_cases hn : nm s
  · rw [sub_self hn, decide_eq_true hn]
    have := eq_F pl_zero pl_zero
    rw [F_zero] at this
    rw [this]; rfl
  · rw [decide_eq_false hn]
    have hs : s.natAbs = I := by
      have h1 := h.1
      have h2 := h.2
      unfold nm at hn
      omega
    have : M0.sub (F s) (F s) = nanW := by
      show (((D.read (F s)).sum (D.read (F s)).opposite).map D.write).getD nanW = nanW
      rw [F_wd, hs, read_inf]
      cases decide (s < 0) <;> rfl
    rw [this]
    exact (nan_cmp nanW_nan 0).2.2.2.2.2.2.2.2.1
theorem refWide {a : LSpan} {l h : Int} (s : SV a l h) : lanternref02_Wide M0 a = decide (¬ (nm l ∧ nm h)) := by
  unfold lanternref02_Wide
  rw [s.lo, s.hi, refNumber s.pl, refNumber s.ph]
  by_cases h1 : nm l <;> by_cases h2 : nm h <;> simp [h1, h2]

theorem least_at {x y : Nat} {s t : Int} (h : At x s) (k : At y t) : At (lanternref02_Least M0 x y) (min s t) := by
  unfold lanternref02_Least
  rw [h.lt k]
  by_cases c : s < t
  · rw [decide_eq_true c, cond_true, Int.min_eq_left (by omega)]; exact h
  · rw [decide_eq_false c, cond_false, Int.min_eq_right (by omega)]; exact k
theorem greatest_at {x y : Nat} {s t : Int} (h : At x s) (k : At y t) : At (lanternref02_Greatest M0 x y) (max s t) := by
  unfold lanternref02_Greatest
  rw [h.gt k]
  by_cases c : t < s
  · rw [decide_eq_true c, cond_true, Int.max_eq_left (by omega)]; exact h
  · rw [decide_eq_false c, cond_false, Int.max_eq_right (by omega)]; exact k

theorem one_at : At 4607182418800017408 4607182418800017408 := ⟨false, 4607182418800017408, by rw [I_eq]; decide, rfl, rfl⟩

theorem inner_at {a : LSpan} {l h : Int} (s : SV a l h) (share : Nat) : ∃ x, At (lanternlaw02_inner M0 a share) x ∧ l ≤ x ∧ x ≤ h ∧ nm x := by
  have hI := I_eq
  have hle := s.le
  have b2 := s.b2
  have b3 := s.b3
  have al : At a.lo l := by rw [s.lo]; exact At_F s.pl
  have ah : At a.hi h := by rw [s.hi]; exact At_F s.ph
  have first : ∃ x, At (lanternref02_Greatest M0 (lanternref02_Least M0 4607182418800017408 a.hi) a.lo) x ∧ l ≤ x ∧ x ≤ h ∧ nm x := by
    refine ⟨_, greatest_at (least_at one_at ah) al, by omega, by omega, ?_⟩
    unfold nm
    omega
  unfold lanternlaw02_inner
  rw [refWide s]
  by_cases c : nm l ∧ nm h
  · rw [decide_eq_false (by simp [c]), cond_false]
    cases M0.ge share 0
    · exact first
    · rw [cond_true]
      cases (!(M0.le share 4607182418800017408))
      · rw [cond_false]
        rcases add_word a.lo (M0.mul (M0.sub a.hi a.lo) share) with e | ⟨x, hx⟩
        · rw [e]
          have : lanternref02_Greatest M0 nanW a.lo = a.lo := by
            unfold lanternref02_Greatest
            rw [(nan_cmp nanW_nan _).2.2.2.2.2.2.1]; rfl
          rw [this]
          refine ⟨_, least_at al ah, by omega, by omega, ?_⟩
          rw [Int.min_eq_left hle]; exact c.1
        · refine ⟨_, least_at (greatest_at hx al) ah, by omega, by omega, ?_⟩
          have n1 := c.1
          have n2 := c.2
          unfold nm at *
          omega
      · exact first
  · rw [decide_eq_true c, cond_true]
    exact first

theorem inner_ni {a : LSpan} (h : SVs a) (s t : Nat) : NI (lanternlaw02_Inner M0 a s t) a := by
  obtain ⟨l, h, sa⟩ := h
  obtain ⟨x, x1, x2, x3, x4⟩ := inner_at sa s
  obtain ⟨y, y1, y2, y3, y4⟩ := inner_at sa t
  refine ⟨min x y, max x y, l, h, SV.mk' ?_ ?_ ?_ ?_ (by omega), sa, by omega, by omega⟩
  · exact (least_at x1 y1).plain
  · exact (greatest_at x1 y1).plain
  · unfold nm at *; omega
  · unfold nm at *; omega

/-! ### Vectors -/
def NI3 (a b : LV3) : Prop := NI a.p0 b.p0 ∧ NI a.p1 b.p1 ∧ NI a.p2 b.p2
def SV3 (a : LV3) : Prop := SVs a.p0 ∧ SVs a.p1 ∧ SVs a.p2
theorem NI3.left {a b : LV3} (h : NI3 a b) : SV3 a := ⟨h.1.left, h.2.1.left, h.2.2.left⟩
theorem NI3.right {a b : LV3} (h : NI3 a b) : SV3 b := ⟨h.1.right, h.2.1.right, h.2.2.right⟩
theorem NI3.refl {a : LV3} (h : SV3 a) : NI3 a a := ⟨.refl h.1, .refl h.2.1, .refl h.2.2⟩
theorem inner3_ni {a : LV3} (h : SV3 a) (s : LA6F) : NI3 (lanternlaw03_Inner3 M0 a s) a := ⟨inner_ni h.1 _ _, inner_ni h.2.1 _ _, inner_ni h.2.2 _ _⟩
def W6 (a : LV3) : Prop := W2 a.p0 ∧ W2 a.p1 ∧ W2 a.p2
theorem valid3_sv {a : LV3} (hw : W6 a) : (lanternref03_Valid M0 a = true → SV3 a) ∧ lanternref03_Valid.ok M0 a = true := by
  obtain ⟨v0, o0⟩ := valid_sv hw.1
  obtain ⟨v1, o1⟩ := valid_sv hw.2.1
  obtain ⟨v2, o2⟩ := valid_sv hw.2.2
  unfold lanternref03_Valid lanternref03_Valid.ok
  rw [o0, o1, o2]
  constructor
  · intro h
    cases h0 : lanternref02_Valid M0 a.p0 with
    | false => rw [h0] at h; cases h
    | true =>
      cases h1 : lanternref02_Valid M0 a.p1 with
      | false => rw [h0, h1] at h; cases h
      | true =>
        rw [h0, h1] at h
        exact ⟨v0 h0, v1 h1, v2 h⟩
  · cases lanternref02_Valid M0 a.p0 <;> cases lanternref02_Valid M0 a.p1 <;> rfl

theorem NI.svs_add {a b : LSpan} (ha : SVs a) (hb : SVs b) : SVs (span_Add M0 a b) := (add_ni (NI.refl ha) (NI.refl hb)).left
theorem svs_sub {a b : LSpan} (ha : SVs a) (hb : SVs b) : SVs (span_Sub M0 a b) := (sub_ni (NI.refl ha) (NI.refl hb)).left
theorem svs_mul {a b : LSpan} (ha : SVs a) (hb : SVs b) : SVs (span_Mul M0 a b) := (mul_ni (NI.refl ha) (NI.refl hb)).left
theorem svs_div {a b : LSpan} (ha : SVs a) (hb : SVs b) : SVs (span_Div M0 a b) := (div_ni (NI.refl ha) (NI.refl hb)).left
theorem svs_sqr {a : LSpan} (ha : SVs a) : SVs (span_Sqr M0 a) := (sqr_ni (NI.refl ha)).left
theorem svs_neg {a : LSpan} (ha : SVs a) : SVs (span_Neg M0 a) := (neg_ni (NI.refl ha)).left
theorem svs_sqrt {a : LSpan} (ha : SVs a) : SVs (span_Sqrt M0 a) := by
  obtain ⟨l, h, sa⟩ := ha
  obtain ⟨s, t, q, _⟩ := sqrt_sv sa
  exact ⟨s, t, q⟩

theorem vsub_ni {a b a' b' : LV3} (ha : NI3 a a') (hb : NI3 b b') : NI3 (vec_Sub M0 a b) (vec_Sub M0 a' b') := ⟨sub_ni ha.1 hb.1, sub_ni ha.2.1 hb.2.1, sub_ni ha.2.2 hb.2.2⟩
theorem vadd_ni {a b a' b' : LV3} (ha : NI3 a a') (hb : NI3 b b') : NI3 (vec_Add M0 a b) (vec_Add M0 a' b') := ⟨add_ni ha.1 hb.1, add_ni ha.2.1 hb.2.1, add_ni ha.2.2 hb.2.2⟩
theorem vtimes_ni {a b a' b' : LV3} (ha : NI3 a a') (hb : NI3 b b') : NI3 (vec_Times M0 a b) (vec_Times M0 a' b') := ⟨mul_ni ha.1 hb.1, mul_ni ha.2.1 hb.2.1, mul_ni ha.2.2 hb.2.2⟩
theorem vscale_ni {a a' : LV3} {s s' : LSpan} (ha : NI3 a a') (hs : NI s s') : NI3 (vec_Scale M0 a s) (vec_Scale M0 a' s') := vtimes_ni ha ⟨hs, hs, hs⟩
theorem vdot_ni {a b a' b' : LV3} (ha : NI3 a a') (hb : NI3 b b') : NI (vec_Dot M0 a b) (vec_Dot M0 a' b') := by
  have h := vtimes_ni ha hb
  exact add_ni (add_ni h.1 h.2.1) h.2.2
theorem vcross_ni {a b a' b' : LV3} (ha : NI3 a a') (hb : NI3 b b') : NI3 (vec_Cross M0 a b) (vec_Cross M0 a' b') :=
  ⟨sub_ni (mul_ni ha.2.1 hb.2.2) (mul_ni ha.2.2 hb.2.1), sub_ni (mul_ni ha.2.2 hb.1) (mul_ni ha.1 hb.2.2), sub_ni (mul_ni ha.1 hb.2.1) (mul_ni ha.2.1 hb.1)⟩
theorem vsqr_ni {a a' : LV3} (ha : NI3 a a') : NI (vec_Sqr M0 a) (vec_Sqr M0 a') := add_ni (add_ni (sqr_ni ha.1) (sqr_ni ha.2.1)) (sqr_ni ha.2.2)

theorem vsub_ok {a b : LV3} (ha : SV3 a) (hb : SV3 b) : vec_Sub.ok M0 a b = true := by
  unfold vec_Sub.ok vec_each_Sub.ok
  rw [sub_ok ha.1 hb.1, sub_ok ha.2.1 hb.2.1, sub_ok ha.2.2 hb.2.2]; rfl
theorem vadd_ok {a b : LV3} (ha : SV3 a) (hb : SV3 b) : vec_Add.ok M0 a b = true := by
  unfold vec_Add.ok vec_each_Add.ok
  rw [add_ok ha.1 hb.1, add_ok ha.2.1 hb.2.1, add_ok ha.2.2 hb.2.2]; rfl
theorem vtimes_ok {a b : LV3} (ha : SV3 a) (hb : SV3 b) : vec_Times.ok M0 a b = true := by
  unfold vec_Times.ok vec_each_Mul.ok
  rw [mul_ok ha.1 hb.1, mul_ok ha.2.1 hb.2.1, mul_ok ha.2.2 hb.2.2]; rfl
theorem vscale_ok {a : LV3} {s : LSpan} (ha : SV3 a) (hs : SVs s) : vec_Scale.ok M0 a s = true := by
  unfold vec_Scale.ok
  rw [vtimes_ok ha ⟨hs, hs, hs⟩]; rfl
theorem vdot_ok {a b : LV3} (ha : SV3 a) (hb : SV3 b) : vec_Dot.ok M0 a b = true := by
  have h := (vtimes_ni (NI3.refl ha) (NI3.refl hb)).left
  unfold vec_Dot.ok
  dsimp only
  rw [vtimes_ok ha hb, add_ok h.1 h.2.1, add_ok (NI.svs_add h.1 h.2.1) h.2.2]; rfl
theorem vcross_ok {a b : LV3} (ha : SV3 a) (hb : SV3 b) : vec_Cross.ok M0 a b = true := by
  unfold vec_Cross.ok
  rw [mul_ok ha.2.1 hb.2.2, mul_ok ha.2.2 hb.2.1, mul_ok ha.2.2 hb.1, mul_ok ha.1 hb.2.2, mul_ok ha.1 hb.2.1, mul_ok ha.2.1 hb.1,
    sub_ok (svs_mul ha.2.1 hb.2.2) (svs_mul ha.2.2 hb.2.1), sub_ok (svs_mul ha.2.2 hb.1) (svs_mul ha.1 hb.2.2), sub_ok (svs_mul ha.1 hb.2.1) (svs_mul ha.2.1 hb.1)]
  rfl
theorem vsqr_ok {a : LV3} (ha : SV3 a) : vec_Sqr.ok M0 a = true := by
  unfold vec_Sqr.ok
  dsimp only
  rw [sqr_ok ha.1, sqr_ok ha.2.1, sqr_ok ha.2.2, add_ok (svs_sqr ha.1) (svs_sqr ha.2.1), add_ok (NI.svs_add (svs_sqr ha.1) (svs_sqr ha.2.1)) (svs_sqr ha.2.2)]
  rfl

end Go.Lan
