import Derived.Test.YtpgjihkaocahbaaGreatGMmMv
import Derived.Test.YtpgjihkaocahbaaGreatGMaMl
/- Spans within spans: quotients, squares, roots, questions. -/
namespace Go.Lan

attribute [local irreducible] B

/-! ### Quotients -/
/-- From a quotient above nothing: corners. -/
theorem qcorner_lo {l m k x y : Int} (hm : 0 < m) (h1 : l ≤ x) (h3 : m ≤ y) (h4 : y ≤ k) : (∀ z, z * m ≤ l * C → z * y ≤ x * C) ∨ (∀ z, z * k ≤ l * C → z * y ≤ x * C) := by
  have hC := C_pos
  have hx : l * C ≤ x * C := Int.mul_le_mul_of_nonneg_right h1 (Int.le_of_lt hC)
  rcases Int.le_total 0 l with hl | hl
  · right
    intro z hz
    have h0 : 0 ≤ l * C := Int.mul_nonneg hl (Int.le_of_lt hC)
    rcases Int.le_total 0 z with h | h
    · exact Int.le_trans (Int.mul_le_mul_of_nonneg_left h4 h) (Int.le_trans hz hx)
    · have : z * y ≤ 0 := Int.mul_nonpos_of_nonpos_of_nonneg h (by omega)
      omega
  · left
    intro z hz
    have h0 : l * C ≤ 0 := Int.mul_nonpos_of_nonpos_of_nonneg hl (Int.le_of_lt hC)
    rcases Int.lt_or_le 0 z with h | h
    · have := Int.mul_pos h hm
      omega
    · exact Int.le_trans (Int.mul_le_mul_of_nonpos_left h h3) (Int.le_trans hz hx)
theorem qcorner_hi {h m k x y : Int} (hm : 0 < m) (h1 : x ≤ h) (h3 : m ≤ y) (h4 : y ≤ k) : (∀ z, h * C ≤ z * m → x * C ≤ z * y) ∨ (∀ z, h * C ≤ z * k → x * C ≤ z * y) := by
  have := qcorner_lo (l := -h) (x := -x) hm (by omega) h3 h4
  simp only [Int.neg_mul] at this
  rcases this with h5 | h5
  · left
    intro z hz
    have := h5 (-z) (by rw [Int.neg_mul]; omega)
    rw [Int.neg_mul] at this
    omega
  · right
    intro z hz
    have := h5 (-z) (by rw [Int.neg_mul]; omega)
    rw [Int.neg_mul] at this
    omega

theorem QD_neg (x y z : Int) (hy : y ≠ 0) : QD (-x) (-y) z ↔ QD x y z := by
  unfold QD
  by_cases h : 0 < y
  · rw [if_pos h, if_neg (by omega), Int.mul_neg, Int.neg_mul]; omega
  · rw [if_neg h, if_pos (by omega), Int.mul_neg, Int.neg_mul]; omega
theorem QU_neg (x y z : Int) (hy : y ≠ 0) : QU (-x) (-y) z ↔ QU x y z := by
  unfold QU
  by_cases h : 0 < y
  · rw [if_pos h, if_neg (by omega), Int.mul_neg, Int.neg_mul]; omega
  · rw [if_neg h, if_pos (by omega), Int.mul_neg, Int.neg_mul]; omega
theorem QDU {x y a b : Int} (hy : y ≠ 0) (h : QD x y a) (k : QU x y b) : a ≤ b := by
  unfold QD at h
  unfold QU at k
  by_cases h0 : 0 < y
  · rw [if_pos h0] at h k
    exact Int.le_of_mul_le_mul_right (Int.le_trans h k) h0
  · rw [if_neg h0] at h k
    have : a * -y ≤ b * -y := by rw [Int.mul_neg, Int.mul_neg]; omega
    exact Int.le_of_mul_le_mul_right this (by omega)

theorem quot_lo {l h m k x y : Int} (h0 : 0 < m ∨ k < 0) (h1 : l ≤ x) (h2 : x ≤ h) (h3 : m ≤ y) (h4 : y ≤ k) :
    (∀ z, QD l m z → QD x y z) ∨ (∀ z, QD l k z → QD x y z) ∨ (∀ z, QD h m z → QD x y z) ∨ (∀ z, QD h k z → QD x y z) := by
  rcases h0 with h0 | h0
  · have e : ∀ a b z, 0 < b → (QD a b z ↔ z * b ≤ a * C) := fun a b z hb => by unfold QD; rw [if_pos hb]
    rcases qcorner_lo h0 h1 h3 h4 with q | q
    · left
      intro z hz
      rw [e _ _ _ (by omega)] at hz ⊢
      exact q z hz
    · right; left
      intro z hz
      rw [e _ _ _ (by omega)] at hz ⊢
      exact q z hz
  · have e : ∀ a b z, b < 0 → (QD a b z ↔ z * -b ≤ -a * C) := fun a b z hb => by unfold QD; rw [if_neg (by omega), Int.mul_neg, Int.neg_mul]; omega
    rcases qcorner_lo (l := -h) (m := -k) (k := -m) (x := -x) (y := -y) (by omega) (by omega) (by omega) (by omega) with q | q
    · right; right; right
      intro z hz
      rw [e _ _ _ (by omega)] at hz ⊢
      exact q z hz
    · right; right; left
      intro z hz
      rw [e _ _ _ (by omega)] at hz ⊢
      exact q z hz
theorem quot_hi {l h m k x y : Int} (h0 : 0 < m ∨ k < 0) (h1 : l ≤ x) (h2 : x ≤ h) (h3 : m ≤ y) (h4 : y ≤ k) :
    (∀ z, QU l m z → QU x y z) ∨ (∀ z, QU l k z → QU x y z) ∨ (∀ z, QU h m z → QU x y z) ∨ (∀ z, QU h k z → QU x y z) := by
  rcases h0 with h0 | h0
  · have e : ∀ a b z, 0 < b → (QU a b z ↔ a * C ≤ z * b) := fun a b z hb => by unfold QU; rw [if_pos hb]
    rcases qcorner_hi h0 h2 h3 h4 with q | q
    · right; right; left
      intro z hz
      rw [e _ _ _ (by omega)] at hz ⊢
      exact q z hz
    · right; right; right
      intro z hz
      rw [e _ _ _ (by omega)] at hz ⊢
      exact q z hz
  · have e : ∀ a b z, b < 0 → (QU a b z ↔ -a * C ≤ z * -b) := fun a b z hb => by unfold QU; rw [if_neg (by omega), Int.mul_neg, Int.neg_mul]; omega
    rcases qcorner_hi (h := -l) (m := -k) (k := -m) (x := -x) (y := -y) (by omega) (by omega) (by omega) (by omega) with q | q
    · right; left
      intro z hz
      rw [e _ _ _ (by omega)] at hz ⊢
      exact q z hz
    · left
      intro z hz
      rw [e _ _ _ (by omega)] at hz ⊢
      exact q z hz

/-- May it be divided by? -/
def dvs (l h m k : Int) : Prop := (0 < m ∨ k < 0) ∧ (nm l ∧ nm h) ∧ (nm m ∧ nm k)
instance (l h m k : Int) : Decidable (dvs l h m k) := inferInstanceAs (Decidable (_ ∧ _))

/-- All of a quotient. -/
theorem div_sv {a b : LSpan} {l h m k : Int} (sa : SV a l h) (sb : SV b m k) : ∃ s t, SV (span_Div M0 a b) s t ∧ span_Div.ok M0 a b = true ∧
    (¬ dvs l h m k → s = -(I : Int) ∧ t = I) ∧ (dvs l h m k → Four QD QU l h m k s t) := by
  have w1 := sa.wide
  have w2 := sb.wide
  have e1 : M0.le b.lo 0 = decide (m ≤ 0) := by rw [sb.lo]; exact F_le0 sb.pl
  have e2 : M0.ge b.hi 0 = decide (0 ≤ k) := by rw [sb.hi]; exact F_ge0 sb.ph
  have hle := sb.le
  by_cases c3 : nm l ∧ nm h
  · by_cases c4 : nm m ∧ nm k
    · by_cases c0 : 0 < m ∨ k < 0
      · have hm0 : m ≠ 0 := by omega
        have hk0 : k ≠ 0 := by omega
        obtain ⟨d1, x1, o1, q1⟩ := divD c3.1 c4.1 hm0
        obtain ⟨d2, x2, o2, q2⟩ := divD c3.1 c4.2 hk0
        obtain ⟨d3, x3, o3, q3⟩ := divD c3.2 c4.1 hm0
        obtain ⟨d4, x4, o4, q4⟩ := divD c3.2 c4.2 hk0
        obtain ⟨u1, f1, p1, r1⟩ := divU c3.1 c4.1 hm0
        obtain ⟨u2, f2, p2, r2⟩ := divU c3.1 c4.2 hk0
        obtain ⟨u3, f3, p3, r3⟩ := divU c3.2 c4.1 hm0
        obtain ⟨u4, f4, p4, r4⟩ := divU c3.2 c4.2 hk0
        have four : Four QD QU l h m k (min (min (min d1 d2) d3) d4) (max (max (max u1 u2) u3) u4) := ⟨⟨d1, d2, d3, d4, q1, q2, q3, q4, rfl⟩, ⟨u1, u2, u3, u4, r1, r2, r3, r4, rfl⟩⟩
        obtain ⟨b1, b2, b3, b4⟩ := four.bounds
        have hWm : Wi m ≠ 0 := by
          have := @Wi_pos m
          have := @Wi_neg_iff m
          omega
        have hval : span_Div M0 a b = ⟨F (min (min (min d1 d2) d3) d4), F (max (max (max u1 u2) u3) u4)⟩ := by
          have g1 := min4_F q1 q2 q3 q4
          have g2 := max4_F r1 r2 r3 r4
          have ww1 : decide (¬ (nm l ∧ nm h)) = false := decide_eq_false (by simp [c3])
          have ww2 : decide (¬ (nm m ∧ nm k)) = false := decide_eq_false (by simp [c4])
          rw [ww1] at w1
          rw [ww2] at w2
          have body : (⟨(M0.min (M0.min (M0.min (M0.min (math_Inf M0 1) (round_Div M0 a.lo b.lo true).1) (round_Div M0 a.lo b.hi true).1) (round_Div M0 a.hi b.lo true).1) (round_Div M0 a.hi b.hi true).1), (M0.max (M0.max (M0.max (M0.max (math_Inf M0 (-1)) (round_Div M0 a.lo b.lo false).1) (round_Div M0 a.lo b.hi false).1) (round_Div M0 a.hi b.lo false).1) (round_Div M0 a.hi b.hi false).1)⟩ : LSpan) = ⟨F (min (min (min d1 d2) d3) d4), F (max (max (max u1 u2) u3) u4)⟩ := by
            rw [sa.lo, sa.hi, sb.lo, sb.hi, x1, x2, x3, x4, f1, f2, f3, f4, g1, g2]
          unfold span_Div
          rw [e1, e2, w1.1, w2.1, body]
          by_cases hm : m ≤ 0
          · rw [decide_eq_true hm, decide_eq_false (by omega)]; rfl
          · rw [decide_eq_false hm]; rfl
        refine ⟨_, _, ⟨by rw [hval], by rw [hval], four.le fun x y => QDU hWm, b1, b2, b3, b4⟩, ?_, fun k => absurd ⟨c0, c3, c4⟩ k, fun _ => four⟩
        unfold span_Div.ok
        have ww1 : decide (¬ (nm l ∧ nm h)) = false := decide_eq_false (by simp [c3])
        have ww2 : decide (¬ (nm m ∧ nm k)) = false := decide_eq_false (by simp [c4])
        rw [ww1] at w1
        rw [ww2] at w2
        rw [e1, e2, w1.1, w2.1, w1.2, w2.2]
        rw [sa.lo, sa.hi, sb.lo, sb.hi, o1, o2, o3, o4, p1, p2, p3, p4]
        cases decide (m ≤ 0) <;> cases decide (0 ≤ k) <;> rfl
      · have hval : span_Div M0 a b = span_All M0 := by
          unfold span_Div
          rw [e1, e2, decide_eq_true (by omega), decide_eq_true (by omega)]; rfl
        refine ⟨_, _, by rw [hval]; exact all_sv, ?_, fun _ => ⟨rfl, rfl⟩, fun d => absurd d.1 c0⟩
        unfold span_Div.ok
        rw [e1, e2, decide_eq_true (by omega), decide_eq_true (by omega)]; rfl
    · have ww2 : decide (¬ (nm m ∧ nm k)) = true := decide_eq_true c4
      rw [ww2] at w2
      have hval : span_Div M0 a b = span_All M0 := by
        unfold span_Div
        rw [w2.1]
        cases M0.le b.lo 0 <;> cases M0.ge b.hi 0 <;> cases span_Wide M0 a <;> rfl
      refine ⟨_, _, by rw [hval]; exact all_sv, ?_, fun _ => ⟨rfl, rfl⟩, fun d => absurd d.2.2 c4⟩
      unfold span_Div.ok
      rw [w2.1, w2.2, w1.2]
      cases M0.le b.lo 0 <;> cases M0.ge b.hi 0 <;> cases span_Wide M0 a <;> rfl
  · have ww1 : decide (¬ (nm l ∧ nm h)) = true := decide_eq_true c3
    rw [ww1] at w1
    have hval : span_Div M0 a b = span_All M0 := by
      unfold span_Div
      rw [w1.1]
      cases M0.le b.lo 0 <;> cases M0.ge b.hi 0 <;> rfl
    refine ⟨_, _, by rw [hval]; exact all_sv, ?_, fun _ => ⟨rfl, rfl⟩, fun d => absurd d.2.1 c3⟩
    unfold span_Div.ok
    rw [w1.1, w1.2]
    cases M0.le b.lo 0 <;> cases M0.ge b.hi 0 <;> rfl
theorem div_ok {a b : LSpan} (ha : SVs a) (hb : SVs b) : span_Div.ok M0 a b = true := by
  obtain ⟨l, h, sa⟩ := ha
  obtain ⟨m, k, sb⟩ := hb
  obtain ⟨s, t, _, h1, _⟩ := div_sv sa sb
  exact h1

theorem div_ni {a b a' b' : LSpan} (ha : NI a a') (hb : NI b b') : NI (span_Div M0 a b) (span_Div M0 a' b') := by
  obtain ⟨l, h, l', h', sa, sa', a1, a2⟩ := ha
  obtain ⟨m, k, m', k', sb, sb', b1, b2⟩ := hb
  obtain ⟨s, t, q, _, w, f⟩ := div_sv sa sb
  obtain ⟨s', t', q', _, w', f'⟩ := div_sv sa' sb'
  refine ⟨s, t, s', t', q, q', ?_⟩
  have e1 := sa.le; have e2 := sb.le
  by_cases n' : dvs l' h' m' k'
  · have n : dvs l h m k := by
      obtain ⟨x0, ⟨x1, x2⟩, x3, x4⟩ := n'
      unfold dvs nm at *
      omega
    have i1 := Wi_le.2 a1
    have i2 := Wi_le.2 a2
    have i3 := Wi_le.2 b1
    have i4 := Wi_le.2 b2
    have i5 := Wi_le.2 e1
    have i6 := Wi_le.2 e2
    have h0 : 0 < Wi m' ∨ Wi k' < 0 := by rw [Wi_pos, Wi_neg_iff]; exact n'.1
    exact (f n).mono (f' n') (fun x y hx hy => quot_lo h0 (by omega) (by omega) (by omega) (by omega)) (fun x y hx hy => quot_hi h0 (by omega) (by omega) (by omega) (by omega))
  · obtain ⟨rfl, rfl⟩ := w' n'
    exact ⟨q.b1, q.b4⟩

/-! ### Squares -/
theorem sqr_hi_lo {a : LSpan} {l h s t : Int} (sa : SV a l h) (q : SV (span_Mul M0 a a) s t) (n : nm l ∧ nm h)
    (z : (l = 0 ∧ h = 0) ∨ (l = 0 ∧ h = 0) → s = 0 ∧ t = 0) (f : ¬ ((l = 0 ∧ h = 0) ∨ (l = 0 ∧ h = 0)) → (nm l ∧ nm h) ∧ (nm l ∧ nm h) → Four MD MU l h l h s t) : 0 ≤ t ∧ (0 < l ∨ h < 0 → 0 ≤ s) := by
  by_cases c : (l = 0 ∧ h = 0) ∨ (l = 0 ∧ h = 0)
  · obtain ⟨rfl, rfl⟩ := z c; omega
  · have F' := f c ⟨n, n⟩
    have hI := I_pos
    have hle := sa.le
    have hW := Wi_le.2 hle
    have zd : isD 0 (fun z => z * C ≤ 0) := ⟨by omega, by omega, .inr (by rw [Wi_zero, Int.zero_mul]; omega), fun t ht _ hP => by
      have := Int.mul_pos (Wi_pos.2 ht) C_pos
      omega⟩
    have zu : isU 0 (fun z => 0 ≤ z * C) := ⟨by omega, by omega, .inr (by rw [Wi_zero, Int.zero_mul]; omega), fun t _ ht hP => by
      have := Int.mul_neg_of_neg_of_pos (Wi_neg_iff.2 ht) C_pos
      omega⟩
    constructor
    · refine F'.upper zu (.inl fun z hz => Int.le_trans ?_ hz)
      rcases Int.le_total 0 (Wi l) with h1 | h1
      · exact Int.mul_nonneg h1 h1
      · exact Int.mul_nonneg_of_nonpos_of_nonpos h1 h1
    · intro hs
      obtain ⟨d1, d2, d3, d4, a1, a2, a3, a4, rfl⟩ := F'.d
      have key : ∀ {x y d : Int}, (0 ≤ Wi x ∧ 0 ≤ Wi y ∨ Wi x ≤ 0 ∧ Wi y ≤ 0) → isD d (MD (Wi x) (Wi y)) → 0 ≤ d := fun {x y d} hxy hd => by
        refine zd.mono hd fun z hz => Int.le_trans hz ?_
        rcases hxy with h1 | h1
        · exact Int.mul_nonneg h1.1 h1.2
        · exact Int.mul_nonneg_of_nonpos_of_nonpos h1.1 h1.2
      have sgn : (0 ≤ Wi l ∧ 0 ≤ Wi h) ∨ (Wi l ≤ 0 ∧ Wi h ≤ 0) := by
        rcases hs with h1 | h1
        · have := Wi_pos.2 h1; omega
        · have := Wi_neg_iff.2 h1; omega
      have := key (by omega) a1
      have := key (by omega) a2
      have := key (by omega) a3
      have := key (by omega) a4
      omega

theorem sqr_sv {a : LSpan} {l h : Int} (sa : SV a l h) : ∃ s t, SV (span_Sqr M0 a) s t ∧ span_Sqr.ok M0 a = true ∧ 0 ≤ s ∧ (¬ (nm l ∧ nm h) → s = 0 ∧ t = I) ∧
    (nm l ∧ nm h → ∃ s0, SV (span_Mul M0 a a) s0 t ∧ (l ≤ 0 ∧ 0 ≤ h → s = 0) ∧ (¬ (l ≤ 0 ∧ 0 ≤ h) → s = s0)) := by
  have w := sa.wide
  have hI := I_pos
  by_cases n : nm l ∧ nm h
  · obtain ⟨s, t, q, o, z, _, f⟩ := mul_sv sa sa
    obtain ⟨h1, h2⟩ := sqr_hi_lo sa q n z f
    have w1 : decide (¬ (nm l ∧ nm h)) = false := decide_eq_false (by simp [n])
    rw [w1] at w
    have e1 : M0.le a.lo 0 = decide (l ≤ 0) := by rw [sa.lo]; exact F_le0 sa.pl
    have e2 : M0.ge a.hi 0 = decide (0 ≤ h) := by rw [sa.hi]; exact F_ge0 sa.ph
    have ok : span_Sqr.ok M0 a = true := by unfold span_Sqr.ok; rw [w.1, w.2, o]; rfl
    by_cases c : l ≤ 0 ∧ 0 ≤ h
    · have hval : span_Sqr M0 a = ⟨0, (span_Mul M0 a a).hi⟩ := by
        unfold span_Sqr
        rw [w.1, e1, e2, decide_eq_true c.1, decide_eq_true c.2]; rfl
      refine ⟨0, t, ⟨by rw [hval, F_zero], by rw [hval]; exact q.hi, h1, by omega, by omega, q.b3, q.b4⟩, ok, by omega, fun k => absurd n k, fun _ => ⟨s, q, fun _ => rfl, fun k => absurd c k⟩⟩
    · have hval : span_Sqr M0 a = span_Mul M0 a a := by
        unfold span_Sqr
        rw [w.1, e1, e2]
        by_cases c1 : l ≤ 0
        · rw [decide_eq_true c1, decide_eq_false (by omega)]; rfl
        · rw [decide_eq_false c1]; rfl
      refine ⟨s, t, by rw [hval]; exact q, ok, h2 (by omega), fun k => absurd n k, fun _ => ⟨s, q, fun k => absurd k c, fun _ => rfl⟩⟩
  · have w1 : decide (¬ (nm l ∧ nm h)) = true := decide_eq_true n
    rw [w1] at w
    have hval : span_Sqr M0 a = ⟨0, math_Inf M0 1⟩ := by unfold span_Sqr; rw [w.1]; rfl
    refine ⟨0, I, ⟨by rw [hval, F_zero], by rw [hval, inf_hi], by omega, by omega, by omega, by omega, by omega⟩, by unfold span_Sqr.ok; rw [w.1, w.2]; rfl, by omega, fun _ => ⟨rfl, rfl⟩, fun k => absurd k n⟩
theorem sqr_ok {a : LSpan} (ha : SVs a) : span_Sqr.ok M0 a = true := by
  obtain ⟨l, h, sa⟩ := ha
  obtain ⟨s, t, _, h1, _⟩ := sqr_sv sa
  exact h1

theorem SV.uniq {a : LSpan} {l h m k : Int} (s : SV a l h) (t : SV a m k) : l = m ∧ h = k :=
  ⟨F_inj s.pl t.pl (s.lo.symm.trans t.lo), F_inj s.ph t.ph (s.hi.symm.trans t.hi)⟩

theorem sqr_ni {a a' : LSpan} (ha : NI a a') : NI (span_Sqr M0 a) (span_Sqr M0 a') := by
  have hm := mul_ni ha ha
  obtain ⟨l, h, l', h', sa, sa', a1, a2⟩ := ha
  obtain ⟨s, t, q, _, p, w, f⟩ := sqr_sv sa
  obtain ⟨s', t', q', _, p', w', f'⟩ := sqr_sv sa'
  refine ⟨s, t, s', t', q, q', ?_⟩
  have e1 := sa.le
  by_cases n' : nm l' ∧ nm h'
  · have n : nm l ∧ nm h := by
      obtain ⟨x1, x2⟩ := n'
      unfold nm at *
      omega
    obtain ⟨s0, q0, g1, g2⟩ := f n
    obtain ⟨s0', q0', g1', g2'⟩ := f' n'
    obtain ⟨x1, x2, x3, x4, y1, y2, y3, y4⟩ := hm
    obtain ⟨rfl, rfl⟩ := y1.uniq q0
    obtain ⟨rfl, rfl⟩ := y2.uniq q0'
    refine ⟨?_, y4⟩
    by_cases c' : l' ≤ 0 ∧ 0 ≤ h'
    · rw [g1' c']; exact p
    · rw [g2' c', g2 (by omega)]
      exact y3
  · obtain ⟨rfl, rfl⟩ := w' n'
    exact ⟨p, q.b4⟩

/-! ### Roots -/
theorem sqrt_sv {a : LSpan} {l h : Int} (sa : SV a l h) : ∃ s t, SV (span_Sqrt M0 a) s t ∧ span_Sqrt.ok M0 a = true ∧ (h < 0 ∨ ¬ (nm l ∧ nm h) → s = -(I : Int) ∧ t = I) ∧
    (0 ≤ h → nm l ∧ nm h → isD s (RD (Wi (max l 0))) ∧ isU t (RU (Wi h))) := by
  have w := sa.wide
  have e1 : M0.lt a.hi 0 = decide (h < 0) := by rw [sa.hi]; exact F_lt0 sa.ph
  by_cases c : h < 0
  · have hval : span_Sqrt M0 a = span_All M0 := by unfold span_Sqrt; rw [e1, decide_eq_true c]; rfl
    exact ⟨_, _, by rw [hval]; exact all_sv, by unfold span_Sqrt.ok; rw [e1, decide_eq_true c]; rfl, fun _ => ⟨rfl, rfl⟩, fun k => by omega⟩
  · by_cases n : nm l ∧ nm h
    · have w1 : decide (¬ (nm l ∧ nm h)) = false := decide_eq_false (by simp [n])
      rw [w1] at w
      have hmax : M0.max a.lo 0 = F (max l 0) := by rw [sa.lo]; exact F_max0 sa.pl
      have nmax : nm (max l 0) := by
        have := n.1
        have := nm_zero
        unfold nm at *
        omega
      obtain ⟨s, s1, s2, s3⟩ := sqrtD nmax (by omega)
      obtain ⟨t, t1, t2, t3⟩ := sqrtU n.2 (by omega)
      have hval : span_Sqrt M0 a = ⟨F s, F t⟩ := by
        unfold span_Sqrt
        rw [e1, decide_eq_false c, w.1, hmax, s1, sa.hi, t1]; rfl
      have hle := sa.le
      refine ⟨s, t, ⟨by rw [hval], by rw [hval], ?_, s3.lo, s3.hi, t3.lo, t3.hi⟩, ?_, fun k => k.elim (fun k => absurd k c) fun k => absurd n k, fun _ _ => ⟨s3, t3⟩⟩
      · refine isD_le_isU s3 t3 fun x y hx hy => ?_
        rcases Int.lt_or_le x 0 with h1 | h1
        · have := hy.1; omega
        · rcases hx with h2 | h2
          · omega
          · have h3 : Wi (max l 0) ≤ Wi h := Wi_le.2 (by omega)
            have h4 : Wi (max l 0) * C ≤ Wi h * C := Int.mul_le_mul_of_nonneg_right h3 (Int.le_of_lt C_pos)
            have h5 := Int.le_trans h2 (Int.le_trans h4 hy.2)
            rcases Int.lt_or_le y x with h6 | h6
            · exfalso
              have h7 : y * y ≤ y * x := Int.mul_le_mul_of_nonneg_left (Int.le_of_lt h6) hy.1
              have h8 : y * x < x * x := Int.mul_lt_mul_of_pos_right h6 (by have := hy.1; omega)
              omega
            · exact h6
      · unfold span_Sqrt.ok
        rw [e1, decide_eq_false c, w.1, w.2, hmax, s2, sa.hi, t2]; rfl
    · have w1 : decide (¬ (nm l ∧ nm h)) = true := decide_eq_true n
      rw [w1] at w
      have hval : span_Sqrt M0 a = span_All M0 := by unfold span_Sqrt; rw [e1, decide_eq_false c, w.1]; rfl
      exact ⟨_, _, by rw [hval]; exact all_sv, by unfold span_Sqrt.ok; rw [e1, decide_eq_false c, w.1, w.2]; rfl, fun _ => ⟨rfl, rfl⟩, fun _ k => absurd k n⟩
theorem sqrt_ok {a : LSpan} (ha : SVs a) : span_Sqrt.ok M0 a = true := by
  obtain ⟨l, h, sa⟩ := ha
  obtain ⟨s, t, _, h1, _⟩ := sqrt_sv sa
  exact h1

/-- The inner one's roots, if it has some. -/
theorem sqrt_ni {a a' : LSpan} (ha : NI a a') (h0 : M0.lt a.hi 0 = false) : NI (span_Sqrt M0 a) (span_Sqrt M0 a') := by
  obtain ⟨l, h, l', h', sa, sa', a1, a2⟩ := ha
  obtain ⟨s, t, q, _, w, f⟩ := sqrt_sv sa
  obtain ⟨s', t', q', _, w', f'⟩ := sqrt_sv sa'
  refine ⟨s, t, s', t', q, q', ?_⟩
  have h1 : 0 ≤ h := by
    rw [sa.hi, F_lt0 sa.ph] at h0
    have := of_decide_eq_false h0
    omega
  have e1 := sa.le
  by_cases n' : nm l' ∧ nm h'
  · have n : nm l ∧ nm h := by
      obtain ⟨x1, x2⟩ := n'
      unfold nm at *
      omega
    obtain ⟨d, u⟩ := f h1 n
    obtain ⟨d', u'⟩ := f' (by omega) n'
    have hC := Int.le_of_lt C_pos
    constructor
    · refine d'.mono d fun z hz => ?_
      rcases hz with hz | hz
      · exact .inl hz
      · refine .inr (Int.le_trans hz (Int.mul_le_mul_of_nonneg_right (Wi_le.2 (by omega)) hC))
    · exact u'.mono u fun z hz => ⟨hz.1, Int.le_trans (Int.mul_le_mul_of_nonneg_right (Wi_le.2 a2) hC) hz.2⟩
  · obtain ⟨rfl, rfl⟩ := w' (.inr n')
    exact ⟨q.b1, q.b4⟩

/-! ### Questions -/
theorem pos_sv {a : LSpan} {l h : Int} (s : SV a l h) : span_Positive M0 a = if 0 < l then 1 else if h ≤ 0 then 0 else 2 := by
  unfold span_Positive
  rw [s.lo, s.hi, F_gt0 s.pl, F_le0 s.ph]
  by_cases h1 : 0 < l
  · rw [decide_eq_true h1, if_pos h1]; rfl
  · rw [decide_eq_false h1, if_neg h1]
    by_cases h2 : h ≤ 0
    · rw [decide_eq_true h2, if_pos h2]; rfl
    · rw [decide_eq_false h2, if_neg h2]; rfl
theorem pos_ni {a a' : LSpan} (ha : NI a a') (hq : span_Positive M0 a' ≠ 2) : span_Positive M0 a = span_Positive M0 a' := by
  obtain ⟨l, h, l', h', sa, sa', a1, a2⟩ := ha
  rw [pos_sv sa'] at hq ⊢
  rw [pos_sv sa]
  have := sa.le
  by_cases c1 : 0 < l'
  · rw [if_pos c1, if_pos (by omega)]
  · rw [if_neg c1] at hq ⊢
    by_cases c2 : h' ≤ 0
    · rw [if_pos c2, if_neg (by omega), if_pos (by omega)]
    · rw [if_neg c2] at hq; exact absurd rfl hq
theorem less_sv {a b : LSpan} {l h m k : Int} (s : SV a l h) (t : SV b m k) : span_Less M0 a b = if h < m then 1 else if k ≤ l then 0 else 2 := by
  unfold span_Less
  rw [s.lo, s.hi, t.lo, t.hi, lt_F s.ph t.pl, ge_F s.pl t.ph]
  by_cases h1 : h < m
  · rw [decide_eq_true h1, if_pos h1]; rfl
  · rw [decide_eq_false h1, if_neg h1]
    by_cases h2 : k ≤ l
    · rw [decide_eq_true h2, if_pos h2]; rfl
    · rw [decide_eq_false h2, if_neg h2]; rfl
theorem least_sv {a : LSpan} {l h : Int} (s : SV a l h) : shape_atLeast M0 a = if h < 0 then 0 else if 0 ≤ l then 1 else 2 := by
  unfold shape_atLeast shape_opposite
  rw [less_sv s zero_sv]
  by_cases h1 : h < 0
  · rw [if_pos h1, if_pos h1]; rfl
  · rw [if_neg h1, if_neg h1]
    by_cases h2 : 0 ≤ l
    · rw [if_pos h2, if_pos h2]; rfl
    · rw [if_neg h2, if_neg h2]; rfl
theorem least_ni {a a' : LSpan} (ha : NI a a') (hq : shape_atLeast M0 a' ≠ 2) : shape_atLeast M0 a = shape_atLeast M0 a' := by
  obtain ⟨l, h, l', h', sa, sa', a1, a2⟩ := ha
  rw [least_sv sa'] at hq ⊢
  rw [least_sv sa]
  have := sa.le
  by_cases c1 : h' < 0
  · rw [if_pos c1, if_pos (by omega)]
  · rw [if_neg c1] at hq ⊢
    by_cases c2 : 0 ≤ l'
    · rw [if_pos c2, if_neg (by omega), if_pos (by omega)]
    · rw [if_neg c2] at hq; exact absurd rfl hq

end Go.Lan

/- Words and places; spans that are valid; spans chosen within others; vectors. -/
namespace Go.Lan

attribute [local irreducible] B

/-! ### Words -/
/-- The word x stands at the place s (a nought may be -0). -/
def At (x : Nat) (s : Int) : Prop := ∃ n r, r ≤ I ∧ x = wd n r ∧ s = K n r
theorem At_F {s : Int} (h : pl s) : At (F s) s := ⟨decide (s < 0), s.natAbs, pl_abs h, F_wd s, (K_F s).symm⟩
theorem At.pl {x : Nat} {s : Int} (h : At x s) : pl s := by
  obtain ⟨n, r, h1, _, rfl⟩ := h
  unfold Go.Lan.pl K
  cases n
  · rw [sgf]; omega
  · rw [sgt]; omega
theorem At.order {x y : Nat} {s t : Int} (h : At x s) (k : At y t) : D.order x y = some (compare s t) := by
  obtain ⟨n, r, h1, rfl, rfl⟩ := h
  obtain ⟨m, q, k1, rfl, rfl⟩ := k
  exact order_wd h1 k1
theorem At.lt {x y : Nat} {s t : Int} (h : At x s) (k : At y t) : M0.lt x y = decide (s < t) := by
  show (D.order x y == some .lt) = _
  rw [h.order k, Bool.eq_iff_iff]
  simp [compare_int_lt]
theorem At.gt {x y : Nat} {s t : Int} (h : At x s) (k : At y t) : M0.gt x y = decide (t < s) := by
  show (D.order x y == some .gt) = _
  rw [h.order k, Bool.eq_iff_iff]
  simp [compare_int_gt]
theorem At.le {x y : Nat} {s t : Int} (h : At x s) (k : At y t) : M0.le x y = decide (s ≤ t) := by
  show (D.order x y == some .lt || D.order x y == some .eq) = _
  rw [h.order k, Bool.eq_iff_iff]
  simp only [Bool.or_eq_true, beq_iff_eq, Option.some.injEq, compare_int_lt, compare_int_eq, decide_eq_true_eq]
  omega
theorem At.ge {x y : Nat} {s t : Int} (h : At x s) (k : At y t) : M0.ge x y = decide (t ≤ s) := by
  show (D.order x y == some .gt || D.order x y == some .eq) = _
  rw [h.order k, Bool.eq_iff_iff]
  simp only [Bool.or_eq_true, beq_iff_eq, Option.some.injEq, compare_int_gt, compare_int_eq, decide_eq_true_eq]
  omega
theorem At.eq {x y : Nat} {s t : Int} (h : At x s) (k : At y t) : M0.eq x y = decide (s = t) := by
  show (D.order x y == some .eq) = _
  rw [h.order k, Bool.eq_iff_iff]
  simp only [beq_iff_eq, Option.some.injEq, compare_int_eq, decide_eq_true_eq]
theorem At.ne {x y : Nat} {s t : Int} (h : At x s) (k : At y t) : M0.ne x y = decide (s ≠ t) := by
  show (D.order x y != some .eq) = _
  rw [h.order k, Bool.eq_iff_iff]
  simp only [bne_iff_ne, ne_eq, Option.some.injEq, compare_int_eq, decide_eq_true_eq]
theorem At.plain {x : Nat} {s : Int} (h : At x s) : M0.add x 0 = F s := by
  obtain ⟨n, r, h1, rfl, rfl⟩ := h
  exact plain_wd h1
theorem At.notNaN {x : Nat} {s : Int} (h : At x s) : isNaNw x = false := by
  obtain ⟨n, r, h1, rfl, rfl⟩ := h
  exact notNaN_wd h1
theorem At.bits {x : Nat} {s : Int} (h : At x s) : f64bits.ok x = true := by
  obtain ⟨n, r, h1, rfl, rfl⟩ := h
  exact bitsok_wd h1
/-- Of one place there is one word, but for -0. -/
theorem At.word {x : Nat} {s : Int} (h : At x s) : x = F s ∨ (s = 0 ∧ x = wd true 0) := by
  obtain ⟨n, r, h1, rfl, rfl⟩ := h
  cases n
  · left; exact (F_nat r).symm
  · rcases Nat.eq_zero_or_pos r with h0 | h0
    · subst h0; exact .inr ⟨rfl, rfl⟩
    · left
      unfold K
      rw [sgt, F_wd, decide_eq_true (by omega)]
      congr 1
      omega

/-- Every word stands at a place or is a NaN. -/
theorem word_at {x : Nat} (h : x < m64) : (∃ s, At x s) ∨ isNaNw x = true := by
  have hm := hm64
  have hI := I_eq
  obtain ⟨n, r, rfl, hr⟩ := wd_split (x := x) (by omega)
  rcases Nat.lt_or_ge I r with h1 | h1
  · right
    show (D.read (wd n r)).isNaN = true
    have hB : B < I := by rw [I_eq, B_val]; decide
    rw [read_wd hr, if_neg (by omega), if_neg (by omega), if_neg (by omega)]
    rfl
  · exact .inl ⟨_, n, r, h1, rfl, rfl⟩

theorem nan_cmp {x : Nat} (h : isNaNw x = true) (y : Nat) : M0.le x y = false ∧ M0.le y x = false ∧ M0.ge x y = false ∧ M0.ge y x = false ∧ M0.lt x y = false ∧ M0.lt y x = false ∧ M0.gt x y = false ∧ M0.gt y x = false ∧ M0.eq x y = false ∧ M0.eq y x = false := by
  obtain ⟨h1, h2⟩ := nan_order x y h
  have e1 : D.order x y = none := h1
  have e2 : D.order y x = none := h2
  refine ⟨?_, ?_, ?_, ?_, ?_, ?_, ?_, ?_, ?_, ?_⟩
  · show (D.order x y == some .lt || D.order x y == some .eq) = _; rw [e1]; rfl
  · show (D.order y x == some .lt || D.order y x == some .eq) = _; rw [e2]; rfl
  · show (D.order x y == some .gt || D.order x y == some .eq) = _; rw [e1]; rfl
  · show (D.order y x == some .gt || D.order y x == some .eq) = _; rw [e2]; rfl
  · show (D.order x y == some .lt) = _; rw [e1]; rfl
  · show (D.order y x == some .lt) = _; rw [e2]; rfl
  · show (D.order x y == some .gt) = _; rw [e1]; rfl
  · show (D.order y x == some .gt) = _; rw [e2]; rfl
  · show (D.order x y == some .eq) = _; rw [e1]; rfl
  · show (D.order y x == some .eq) = _; rw [e2]; rfl

/-- What an operation writes. -/
theorem write_at (d : Ieee.Datum) (h : ∀ n f, d ≠ .nan n f) : ∃ s, At (D.write d) s := by
  cases d with
  | nan n f => exact absurd rfl (h n f)
  | infinity n => exact ⟨_, n, I, Nat.le_refl _, write_inf n, rfl⟩
  | number n m p =>
    show ∃ s, At (D.nearest n m p) s
    unfold Ieee.Format.nearest
    by_cases h0 : m = 0
    · rw [if_pos h0, wd_eq]; exact ⟨_, n, 0, Nat.zero_le _, rfl, rfl⟩
    · rw [if_neg h0]
      dsimp only
      rw [wd_eq, D_inf]
      exact ⟨_, n, _, Nat.min_le_right _ _, rfl, rfl⟩
theorem sum_notNaN {a b d : Ieee.Datum} (h : a.sum b = some d) : ∀ n f, d ≠ .nan n f := by
  intro n f e
  subst e
  cases a <;> cases b <;> simp only [Ieee.Datum.sum, reduceCtorEq, Option.some.injEq] at h
  split at h <;> simp_all
theorem add_word (x y : Nat) : M0.add x y = nanW ∨ ∃ s, At (M0.add x y) s := by
  show ((((D.read x).sum (D.read y)).map D.write).getD nanW = nanW) ∨ ∃ s, At ((((D.read x).sum (D.read y)).map D.write).getD nanW) s
  cases h : (D.read x).sum (D.read y) with
  | none => exact .inl rfl
  | some d => exact .inr (write_at d (sum_notNaN h))

/-! ### Valid spans -/
theorem refInf : lanternref01_Inf M0 = F I := by
  rw [← inf_hi]; rfl
theorem neg_at {x : Nat} {s : Int} (h : At x s) : At (M0.neg x) (-s) := by
  obtain ⟨n, r, h1, rfl, rfl⟩ := h
  refine ⟨!n, r, h1, neg_wd h1, ?_⟩
  exact (sg_neg n r).symm
theorem minus_at {x : Nat} {s : Int} (h : At x s) : (lanternref02_minus M0 x = true ↔ x = wd true 0) ∧ lanternref02_minus.ok M0 x = true := by
  unfold lanternref02_minus lanternref02_minus.ok
  have e : M0.eq x 0 = decide (s = 0) := h.eq (At_F pl_zero)
  rw [e, h.bits]
  by_cases h0 : s = 0
  · rw [decide_eq_true h0]
    refine ⟨?_, rfl⟩
    subst h0
    rcases h.word with rfl | ⟨_, rfl⟩
    · constructor
      · intro h1; simp [F_zero, f64bits] at h1
      · intro h1; rw [F_zero] at h1; simp [wd] at h1
    · simp [f64bits, wd]
  · rw [decide_eq_false h0]
    refine ⟨⟨fun h1 => (by cases h1), fun h1 => ?_⟩, rfl⟩
    subst h1
    rcases h.word with h2 | h2
    · obtain ⟨n, r, k1, k2, rfl⟩ := h
      exfalso
      have : D.order (wd true 0) (wd true 0) = _ := order_wd (Nat.zero_le _) (Nat.zero_le _)
      have e2 : D.order (wd n r) (wd n r) = _ := order_wd k1 k1
      have : M0.eq (wd true 0) 0 = true := by
        show (D.order (wd true 0) (wd false 0) == some .eq) = true
        rw [order_wd (Nat.zero_le _) (Nat.zero_le _)]; rfl
      rw [this, decide_eq_false h0] at e
      cases e
    · exact absurd h2.1 h0

/-- A span whose ends are words. -/
def W2 (a : LSpan) : Prop := a.lo < m64 ∧ a.hi < m64
theorem valid_sv {a : LSpan} (hw : W2 a) : (lanternref02_Valid M0 a = true → SVs a) ∧ lanternref02_Valid.ok M0 a = true := by
  have hI := I_pos
  have pI : pl (I : Int) := ⟨by omega, by omega⟩
  have aI := At_F pI
  have anI : At (M0.neg (F I)) (-(I : Int)) := neg_at aI
  unfold lanternref02_Valid lanternref02_Valid.ok
  rw [refInf]
  rcases word_at hw.1 with ⟨l, hl⟩ | hl
  · rcases word_at hw.2 with ⟨h, hh⟩ | hh
    · rw [hl.le hh, hl.ne aI, hh.ne anI, (minus_at hl).2, (minus_at hh).2]
      have m1 := (minus_at hl).1
      have m2 := (minus_at hh).1
      constructor
      · intro hv
        by_cases c1 : l ≤ h
        · rw [decide_eq_true c1, cond_true] at hv
          by_cases c2 : l ≠ (I : Int)
          · rw [decide_eq_true c2, cond_true] at hv
            by_cases c3 : h ≠ -(I : Int)
            · rw [decide_eq_true c3, cond_true] at hv
              have n1 : lanternref02_minus M0 a.lo = false := by
                cases hm : lanternref02_minus M0 a.lo with
                | false => rfl
                | true => rw [hm] at hv; cases hv
              have n2 : lanternref02_minus M0 a.hi = false := by
                cases hm : lanternref02_minus M0 a.hi with
                | false => rfl
                | true => rw [n1, hm] at hv; cases hv
              have p1 := hl.pl
              have p2 := hh.pl
              refine ⟨l, h, ⟨?_, ?_, c1, p1.1, by have := p1.2; omega, by have := p2.1; omega, p2.2⟩⟩
              · rcases hl.word with h1 | h1
                · exact h1
                · rw [m1.2 h1.2] at n1; cases n1
              · rcases hh.word with h1 | h1
                · exact h1
                · rw [m2.2 h1.2] at n2; cases n2
            · rw [decide_eq_false c3] at hv; cases hv
          · rw [decide_eq_false c2] at hv; cases hv
        · rw [decide_eq_false c1] at hv; cases hv
      · cases decide (l ≤ h) <;> cases decide (l ≠ (I : Int)) <;> cases decide (h ≠ -(I : Int)) <;> cases lanternref02_minus M0 a.lo <;> rfl
    · rw [(nan_cmp hh _).2.1]
      exact ⟨fun h => (by cases h), rfl⟩
  · rw [(nan_cmp hl _).1]
    exact ⟨fun h => (by cases h), rfl⟩

/-! ### A number of a span -/
theorem sub_self {s : Int} (h : nm s) : M0.sub (F s) (F s) = 0 := by
  show (((D.read (F s)).sum (D.read (F s)).opposite).map D.write).getD nanW = 0
  obtain ⟨m, e, q, _⟩ := read_fin (neg := decide (s < 0)) (nm_abs h)
  rw [F_wd, q]
  simp only [Ieee.Datum.opposite, Ieee.Datum.sum, Int.min_self, Int.sub_self, Int.toNat_zero, Option.map_some, Option.getD_some]
  rw [signed_eq, signed_eq, Nat.pow_zero, Nat.mul_one, sg_neg, Int.add_right_neg]
  cases decide (s < 0) <;> simp [Ieee.Format.write, Ieee.Format.nearest, wd_eq, wd]
theorem refNumber {s : Int} (h : pl s) : lanternref01_Number M0 (F s) = decide (nm s) := by
  unfold lanternref01_Number
  by_cases hn : nm s
  · rw [sub_self hn, decide_eq_true hn]
    have := eq_F pl_zero pl_zero
    rw [F_zero] at this
    rw [this]; rfl
  · rw [decide_eq_false hn]
    have hs : s.natAbs = I := by
      have h1 := h.1
      have h2 := h.2
      unfold nm at hn
      omega
    have : M0.sub (F s) (F s) = nanW := by
      show (((D.read (F s)).sum (D.read (F s)).opposite).map D.write).getD nanW = nanW
      rw [F_wd, hs, read_inf]
      cases decide (s < 0) <;> rfl
    rw [this]
    exact (nan_cmp nanW_nan 0).2.2.2.2.2.2.2.2.1
theorem refWide {a : LSpan} {l h : Int} (s : SV a l h) : lanternref02_Wide M0 a = decide (¬ (nm l ∧ nm h)) := by
  unfold lanternref02_Wide
  rw [s.lo, s.hi, refNumber s.pl, refNumber s.ph]
  by_cases h1 : nm l <;> by_cases h2 : nm h <;> simp [h1, h2]

theorem least_at {x y : Nat} {s t : Int} (h : At x s) (k : At y t) : At (lanternref02_Least M0 x y) (min s t) := by
  unfold lanternref02_Least
  rw [h.lt k]
  by_cases c : s < t
  · rw [decide_eq_true c, cond_true, Int.min_eq_left (by omega)]; exact h
  · rw [decide_eq_false c, cond_false, Int.min_eq_right (by omega)]; exact k
theorem greatest_at {x y : Nat} {s t : Int} (h : At x s) (k : At y t) : At (lanternref02_Greatest M0 x y) (max s t) := by
  unfold lanternref02_Greatest
  rw [h.gt k]
  by_cases c : t < s
  · rw [decide_eq_true c, cond_true, Int.max_eq_left (by omega)]; exact h
  · rw [decide_eq_false c, cond_false, Int.max_eq_right (by omega)]; exact k

theorem one_at : At 4607182418800017408 4607182418800017408 := ⟨false, 4607182418800017408, by rw [I_eq]; decide, rfl, rfl⟩

/-! ### Vectors -/
def NI3 (a b : LV3) : Prop := NI a.p0 b.p0 ∧ NI a.p1 b.p1 ∧ NI a.p2 b.p2
def SV3 (a : LV3) : Prop := SVs a.p0 ∧ SVs a.p1 ∧ SVs a.p2
theorem NI3.left {a b : LV3} (h : NI3 a b) : SV3 a := ⟨h.1.left, h.2.1.left, h.2.2.left⟩
theorem NI3.right {a b : LV3} (h : NI3 a b) : SV3 b := ⟨h.1.right, h.2.1.right, h.2.2.right⟩
theorem NI3.refl {a : LV3} (h : SV3 a) : NI3 a a := ⟨.refl h.1, .refl h.2.1, .refl h.2.2⟩
def W6 (a : LV3) : Prop := W2 a.p0 ∧ W2 a.p1 ∧ W2 a.p2
theorem valid3_sv {a : LV3} (hw : W6 a) : (lanternref03_Valid M0 a = true → SV3 a) ∧ lanternref03_Valid.ok M0 a = true := by
  obtain ⟨v0, o0⟩ := valid_sv hw.1
  obtain ⟨v1, o1⟩ := valid_sv hw.2.1
  obtain ⟨v2, o2⟩ := valid_sv hw.2.2
  unfold lanternref03_Valid lanternref03_Valid.ok
  rw [o0, o1, o2]
  constructor
  · intro h
    cases h0 : lanternref02_Valid M0 a.p0 with
    | false => rw [h0] at h; cases h
    | true =>
      cases h1 : lanternref02_Valid M0 a.p1 with
      | false => rw [h0, h1] at h; cases h
      | true =>
        rw [h0, h1] at h
        exact ⟨v0 h0, v1 h1, v2 h⟩
  · cases lanternref02_Valid M0 a.p0 <;> cases lanternref02_Valid M0 a.p1 <;> rfl

theorem NI.svs_add {a b : LSpan} (ha : SVs a) (hb : SVs b) : SVs (span_Add M0 a b) := (add_ni (NI.refl ha) (NI.refl hb)).left
theorem svs_sub {a b : LSpan} (ha : SVs a) (hb : SVs b) : SVs (span_Sub M0 a b) := (sub_ni (NI.refl ha) (NI.refl hb)).left
theorem svs_mul {a b : LSpan} (ha : SVs a) (hb : SVs b) : SVs (span_Mul M0 a b) := (mul_ni (NI.refl ha) (NI.refl hb)).left
theorem svs_div {a b : LSpan} (ha : SVs a) (hb : SVs b) : SVs (span_Div M0 a b) := (div_ni (NI.refl ha) (NI.refl hb)).left
theorem svs_sqr {a : LSpan} (ha : SVs a) : SVs (span_Sqr M0 a) := (sqr_ni (NI.refl ha)).left
theorem svs_neg {a : LSpan} (ha : SVs a) : SVs (span_Neg M0 a) := (neg_ni (NI.refl ha)).left
theorem svs_sqrt {a : LSpan} (ha : SVs a) : SVs (span_Sqrt M0 a) := by
  obtain ⟨l, h, sa⟩ := ha
  obtain ⟨s, t, q, _⟩ := sqrt_sv sa
  exact ⟨s, t, q⟩

theorem vsub_ni {a b a' b' : LV3} (ha : NI3 a a') (hb : NI3 b b') : NI3 (vec_Sub M0 a b) (vec_Sub M0 a' b') := ⟨sub_ni ha.1 hb.1, sub_ni ha.2.1 hb.2.1, sub_ni ha.2.2 hb.2.2⟩
theorem vadd_ni {a b a' b' : LV3} (ha : NI3 a a') (hb : NI3 b b') : NI3 (vec_Add M0 a b) (vec_Add M0 a' b') := ⟨add_ni ha.1 hb.1, add_ni ha.2.1 hb.2.1, add_ni ha.2.2 hb.2.2⟩
theorem vtimes_ni {a b a' b' : LV3} (ha : NI3 a a') (hb : NI3 b b') : NI3 (vec_Times M0 a b) (vec_Times M0 a' b') := ⟨mul_ni ha.1 hb.1, mul_ni ha.2.1 hb.2.1, mul_ni ha.2.2 hb.2.2⟩
theorem vscale_ni {a a' : LV3} {s s' : LSpan} (ha : NI3 a a') (hs : NI s s') : NI3 (vec_Scale M0 a s) (vec_Scale M0 a' s') := vtimes_ni ha ⟨hs, hs, hs⟩
theorem vdot_ni {a b a' b' : LV3} (ha : NI3 a a') (hb : NI3 b b') : NI (vec_Dot M0 a b) (vec_Dot M0 a' b') := by
  have h := vtimes_ni ha hb
  exact add_ni (add_ni h.1 h.2.1) h.2.2
theorem vcross_ni {a b a' b' : LV3} (ha : NI3 a a') (hb : NI3 b b') : NI3 (vec_Cross M0 a b) (vec_Cross M0 a' b') :=
  ⟨sub_ni (mul_ni ha.2.1 hb.2.2) (mul_ni ha.2.2 hb.2.1), sub_ni (mul_ni ha.2.2 hb.1) (mul_ni ha.1 hb.2.2), sub_ni (mul_ni ha.1 hb.2.1) (mul_ni ha.2.1 hb.1)⟩
theorem vsqr_ni {a a' : LV3} (ha : NI3 a a') : NI (vec_Sqr M0 a) (vec_Sqr M0 a') := add_ni (add_ni (sqr_ni ha.1) (sqr_ni ha.2.1)) (sqr_ni ha.2.2)

theorem vsub_ok {a b : LV3} (ha : SV3 a) (hb : SV3 b) : vec_Sub.ok M0 a b = true := by
  unfold vec_Sub.ok vec_each_Sub.ok
  rw [sub_ok ha.1 hb.1, sub_ok ha.2.1 hb.2.1, sub_ok ha.2.2 hb.2.2]; rfl
theorem vadd_ok {a b : LV3} (ha : SV3 a) (hb : SV3 b) : vec_Add.ok M0 a b = true := by
  unfold vec_Add.ok vec_each_Add.ok
  rw [add_ok ha.1 hb.1, add_ok ha.2.1 hb.2.1, add_ok ha.2.2 hb.2.2]; rfl
theorem vtimes_ok {a b : LV3} (ha : SV3 a) (hb : SV3 b) : vec_Times.ok M0 a b = true := by
  unfold vec_Times.ok vec_each_Mul.ok
  rw [mul_ok ha.1 hb.1, mul_ok ha.2.1 hb.2.1, mul_ok ha.2.2 hb.2.2]; rfl
theorem vscale_ok {a : LV3} {s : LSpan} (ha : SV3 a) (hs : SVs s) : vec_Scale.ok M0 a s = true := by
  unfold vec_Scale.ok
  rw [vtimes_ok ha ⟨hs, hs, hs⟩]; rfl
theorem vdot_ok {a b : LV3} (ha : SV3 a) (hb : SV3 b) : vec_Dot.ok M0 a b = true := by
  have h := (vtimes_ni (NI3.refl ha) (NI3.refl hb)).left
  unfold vec_Dot.ok
  dsimp only
  rw [vtimes_ok ha hb, add_ok h.1 h.2.1, add_ok (NI.svs_add h.1 h.2.1) h.2.2]; rfl
theorem vcross_ok {a b : LV3} (ha : SV3 a) (hb : SV3 b) : vec_Cross.ok M0 a b = true := by
  unfold vec_Cross.ok
  rw [mul_ok ha.2.1 hb.2.2, mul_ok ha.2.2 hb.2.1, mul_ok ha.2.2 hb.1, mul_ok ha.1 hb.2.2, mul_ok ha.1 hb.2.1, mul_ok ha.2.1 hb.1,
    sub_ok (svs_mul ha.2.1 hb.2.2) (svs_mul ha.2.2 hb.2.1), sub_ok (svs_mul ha.2.2 hb.1) (svs_mul ha.1 hb.2.2), sub_ok (svs_mul ha.1 hb.2.1) (svs_mul ha.2.1 hb.1)]
  rfl
theorem vsqr_ok {a : LV3} (ha : SV3 a) : vec_Sqr.ok M0 a = true := by
  unfold vec_Sqr.ok
  dsimp only
  rw [sqr_ok ha.1, sqr_ok ha.2.1, sqr_ok ha.2.2, add_ok (svs_sqr ha.1) (svs_sqr ha.2.1), add_ok (NI.svs_add (svs_sqr ha.1) (svs_sqr ha.2.1)) (svs_sqr ha.2.2)]
  rfl

end Go.Lan

/- Shapes within shapes: ShapeNests. -/
namespace Go.Lan

attribute [local irreducible] B

theorem edges_ni {s s' : LShape} (h0 : NI3 s.p.p0 s'.p.p0) (h1 : NI3 s.p.p1 s'.p.p1) (h2 : NI3 s.p.p2 s'.p.p2) : NI3 (shape_edges M0 s).1 (shape_edges M0 s').1 ∧ NI3 (shape_edges M0 s).2 (shape_edges M0 s').2 := ⟨vsub_ni h1 h0, vsub_ni h2 h0⟩
theorem edges_ok {s : LShape} (h0 : SV3 s.p.p0) (h1 : SV3 s.p.p1) (h2 : SV3 s.p.p2) : shape_edges.ok M0 s = true := by
  unfold shape_edges.ok
  rw [vsub_ok h1 h0, vsub_ok h2 h0]; rfl

/-! ### Answers -/
/-- An answer that stays. -/
def An (n w : Int) : Prop := (w = 0 ∨ w = 1 ∨ w = 2) ∧ (w ≠ 2 → n = w) ∧ (n = 0 ∨ n = 1 ∨ n = 2)
theorem pos_an {a a' : LSpan} (h : NI a a') : An (span_Positive M0 a) (span_Positive M0 a') := by
  have v : ∀ b, SVs b → span_Positive M0 b = 0 ∨ span_Positive M0 b = 1 ∨ span_Positive M0 b = 2 := fun b ⟨l, h, s⟩ => by
    rw [pos_sv s]; split
    · simp
    · split <;> simp
  exact ⟨v _ h.right, pos_ni h, v _ h.left⟩
theorem least_an {a a' : LSpan} (h : NI a a') : An (shape_atLeast M0 a) (shape_atLeast M0 a') := by
  have v : ∀ b, SVs b → shape_atLeast M0 b = 0 ∨ shape_atLeast M0 b = 1 ∨ shape_atLeast M0 b = 2 := fun b ⟨l, h, s⟩ => by
    rw [least_sv s]; split
    · simp
    · split <;> simp
  exact ⟨v _ h.right, least_ni h, v _ h.left⟩

def v3 (a : Int) : Prop := a = 0 ∨ a = 1 ∨ a = 2
theorem all4_eq {a b c d : Int} : shape_all_s4 M0 a b c d = if a = 0 ∨ b = 0 ∨ c = 0 ∨ d = 0 then 0 else if a = 1 ∧ b = 1 ∧ c = 1 ∧ d = 1 then 1 else 2 := by
  have e0 : ∀ x : Int, (x == 0) = decide (x = 0) := fun x => by rw [Bool.eq_iff_iff]; simp
  have e1 : ∀ x : Int, (x != 1) = !decide (x = 1) := fun x => by rw [Bool.eq_iff_iff]; simp
  unfold shape_all_s4
  simp only [e0, e1]
  by_cases a0 : a = 0
  · simp [a0]
  by_cases b0 : b = 0
  · simp [a0, b0]
  by_cases c0 : c = 0
  · simp [a0, b0, c0]
  by_cases d0 : d = 0
  · simp [a0, b0, c0, d0]
  by_cases a1 : a = 1 <;> by_cases b1 : b = 1 <;> by_cases c1 : c = 1 <;> by_cases d1 : d = 1 <;> simp [a0, b0, c0, d0, a1, b1, c1, d1]
theorem all2_eq {a b : Int} : shape_all_s2 M0 a b = if a = 0 ∨ b = 0 then 0 else if a = 1 ∧ b = 1 then 1 else 2 := by
  have e0 : ∀ x : Int, (x == 0) = decide (x = 0) := fun x => by rw [Bool.eq_iff_iff]; simp
  have e1 : ∀ x : Int, (x != 1) = !decide (x = 1) := fun x => by rw [Bool.eq_iff_iff]; simp
  unfold shape_all_s2
  simp only [e0, e1]
  by_cases a0 : a = 0
  · simp [a0]
  by_cases b0 : b = 0
  · simp [a0, b0]
  by_cases a1 : a = 1 <;> by_cases b1 : b = 1 <;> simp [a0, b0, a1, b1]

theorem all4_an {a b c d a' b' c' d' : Int} (ha : An a a') (hb : An b b') (hc : An c c') (hd : An d d') : An (shape_all_s4 M0 a b c d) (shape_all_s4 M0 a' b' c' d') := by
  unfold An at *
  rw [all4_eq, all4_eq]
  refine ⟨?_, ?_, ?_⟩
  · split
    · simp
    · split <;> simp
  · split
    · intro _
      rw [if_pos (by omega)]
    · split
      · intro _
        rw [if_neg (by omega), if_pos (by omega)]
      · intro h; exact absurd rfl h
  · split
    · simp
    · split <;> simp
theorem all2_an {a b a' b' : Int} (ha : An a a') (hb : An b b') : An (shape_all_s2 M0 a b) (shape_all_s2 M0 a' b') := by
  unfold An at *
  rw [all2_eq, all2_eq]
  refine ⟨?_, ?_, ?_⟩
  · split
    · simp
    · split <;> simp
  · split
    · intro _
      rw [if_pos (by omega)]
    · split
      · intro _
        rw [if_neg (by omega), if_pos (by omega)]
      · intro h; exact absurd rfl h
  · split
    · simp
    · split <;> simp

/-! ### Hits -/
/-- The hit n is that of something within. -/
def HN (n w : LHit) : Prop := w.answer ≠ 2 → n.answer = w.answer ∧ NI n.t w.t ∧ NI n.u w.u ∧ NI n.v w.v
theorem hn_no (n w : Int) (h : w ≠ 2 → n = w) : HN ⟨n, ⟨0, 0⟩, ⟨0, 0⟩, ⟨0, 0⟩⟩ ⟨w, ⟨0, 0⟩, ⟨0, 0⟩, ⟨0, 0⟩⟩ := fun hw => ⟨h hw, ni_zero, ni_zero, ni_zero⟩

theorem side_eq {d : LSpan} {l h : Int} (s : SV d l h) : shape_side M0 d = if 0 < l then (4607182418800017408, 1) else if h < 0 then (13830554455654793216, 1) else if l = 0 ∧ h = 0 then (0, 0) else (0, 2) := by
  have z := isZ_sv s
  unfold isZ at z
  unfold shape_side
  rw [pos_sv s, pos_sv (neg_sv s), z]
  have hle := s.le
  by_cases h1 : 0 < l
  · rw [if_pos h1, if_pos h1]; rfl
  · rw [if_neg h1, if_neg h1]
    by_cases h2 : h < 0
    · rw [if_pos h2, if_pos (show (0 : Int) < -h by omega), if_pos (show h ≤ 0 by omega)]; rfl
    · rw [if_neg h2, if_neg (show ¬ (0 : Int) < -h by omega)]
      by_cases h3 : l = 0 ∧ h = 0
      · rw [if_pos h3, decide_eq_true h3, if_pos (show h ≤ 0 by omega), if_pos (show -l ≤ 0 by omega)]; rfl
      · rw [if_neg h3, decide_eq_false h3]
        split <;> split <;> rfl

theorem of_one : SVs (span_Of M0 4607182418800017408) := by
  have hI := I_eq
  have e : span_Of M0 4607182418800017408 = ⟨4607182418800017408, 4607182418800017408⟩ := by kernel_rfl
  have f : F ((4607182418800017408 : Nat) : Int) = 4607182418800017408 := F_nat _
  rw [e]
  exact ⟨_, _, f.symm, f.symm, Int.le_refl _, by omega, by omega, by omega, by omega⟩
theorem of_mone : SVs (span_Of M0 13830554455654793216) := by
  have hI := I_eq
  have e : span_Of M0 13830554455654793216 = ⟨13830554455654793216, 13830554455654793216⟩ := by kernel_rfl
  have f : F (-((4607182418800017408 : Nat) : Int)) = 13830554455654793216 := by decide
  rw [e]
  exact ⟨_, _, f.symm, f.symm, Int.le_refl _, by omega, by omega, by omega, by omega⟩
theorem of_mtwo : SVs (span_Of M0 13835058055282163712) := by
  have hI := I_eq
  have e : span_Of M0 13835058055282163712 = ⟨13835058055282163712, 13835058055282163712⟩ := by kernel_rfl
  have f : F (-((4611686018427387904 : Nat) : Int)) = 13835058055282163712 := by decide
  rw [e]
  exact ⟨_, _, f.symm, f.symm, Int.le_refl _, by omega, by omega, by omega, by omega⟩
theorem ofok_wd {x : Nat} {s : Int} (h : At x s) : span_Of.ok M0 x = true := by
  unfold span_Of.ok
  obtain ⟨n, r, h1, rfl, rfl⟩ := h
  rw [numberok_wd h1]; rfl
theorem side_at {d : LSpan} (h : SVs d) : span_Of.ok M0 (shape_side M0 d).1 = true ∧ ((shape_side M0 d).2 = 1 → SVs (span_Of M0 (shape_side M0 d).1)) := by
  obtain ⟨l, h, s⟩ := h
  rw [side_eq s]
  split
  · exact ⟨by kernel_rfl, fun _ => of_one⟩
  · split
    · exact ⟨by kernel_rfl, fun _ => of_mone⟩
    · split
      · exact ⟨by kernel_rfl, fun h => by cases h⟩
      · exact ⟨by kernel_rfl, fun h => by cases h⟩
theorem side_ni {d d' : LSpan} (h : NI d d') : (shape_side M0 d').2 ≠ 2 → shape_side M0 d = shape_side M0 d' := by
  obtain ⟨l, h, l', h', s, s', a1, a2⟩ := h
  rw [side_eq s, side_eq s']
  have := s.le
  intro hq
  by_cases c1 : 0 < l'
  · rw [if_pos c1, if_pos (by omega)]
  · rw [if_neg c1] at hq ⊢
    by_cases c2 : h' < 0
    · rw [if_pos c2, if_neg (by omega), if_pos (by omega)]
    · rw [if_neg c2] at hq ⊢
      by_cases c3 : l' = 0 ∧ h' = 0
      · rw [if_pos c3, if_neg (by omega), if_neg (by omega), if_pos (by omega)]
      · rw [if_neg c3] at hq; exact absurd rfl hq

/-! ### Shapes and rays -/
structure NShape (s s' : LShape) : Prop where
  kind : s.kind = s'.kind
  p0 : NI3 s.p.p0 s'.p.p0
  p1 : NI3 s.p.p1 s'.p.p1
  p2 : NI3 s.p.p2 s'.p.p2
  r : NI s.r s'.r
structure NRay (r r' : LRay) : Prop where
  o : NI3 r.o r'.o
  d : NI3 r.d r'.d
structure SShape (s : LShape) : Prop where
  p0 : SV3 s.p.p0
  p1 : SV3 s.p.p1
  p2 : SV3 s.p.p2
  r : SVs s.r
structure SRay (r : LRay) : Prop where
  o : SV3 r.o
  d : SV3 r.d
theorem NShape.left {s s' : LShape} (h : NShape s s') : SShape s := ⟨h.p0.left, h.p1.left, h.p2.left, h.r.left⟩
theorem NShape.refl {s : LShape} (h : SShape s) : NShape s s := ⟨rfl, .refl h.p0, .refl h.p1, .refl h.p2, .refl h.r⟩
theorem NRay.left {s s' : LRay} (h : NRay s s') : SRay s := ⟨h.o.left, h.d.left⟩
theorem NRay.refl {r : LRay} (h : SRay r) : NRay r r := ⟨.refl h.o, .refl h.d⟩

theorem tri_ni {s s' : LShape} {r r' : LRay} (hs : NShape s s') (hr : NRay r r') : HN (shape_triangle M0 s r) (shape_triangle M0 s' r') := by
  obtain ⟨e1, e2⟩ := edges_ni hs.p0 hs.p1 hs.p2
  have hp := vcross_ni hr.d e2
  have hdet := vdot_ni e1 hp
  have ho := vsub_ni hr.o hs.p0
  have hq := vcross_ni ho e1
  have hsd := side_ni hdet
  have hsa := side_at hdet.right
  unfold shape_triangle
  dsimp only
  by_cases c : (shape_side M0 (vec_Dot M0 (shape_edges M0 s').1 (vec_Cross M0 r'.d (shape_edges M0 s').2))).2 = 2
  · have e : ((2 : Int) != 1) = true := rfl
    intro hw
    rw [c, e] at hw
    exact absurd rfl hw
  · rw [hsd c]
    by_cases c1 : (shape_side M0 (vec_Dot M0 (shape_edges M0 s').1 (vec_Cross M0 r'.d (shape_edges M0 s').2))).2 = 1
    · have e : ((1 : Int) != 1) = false := rfl
      have k := NI.refl (hsa.2 c1)
      rw [c1, e, cond_false, cond_false]
      have n9 := mul_ni hdet k
      have n11 := mul_ni (vdot_ni ho hp) k
      have n13 := mul_ni (vdot_ni hr.d hq) k
      have n15 := mul_ni (vdot_ni e2 hq) k
      have han := all4_an (least_an n11) (least_an n13) (least_an (sub_ni n9 (add_ni n11 n13))) (pos_an n15)
      obtain ⟨v1, v2, v3⟩ := han
      intro hw
      by_cases c2 : shape_all_s4 M0 (shape_atLeast M0 (span_Mul M0 (vec_Dot M0 (vec_Sub M0 r'.o s'.p.p0) (vec_Cross M0 r'.d (shape_edges M0 s').2)) (span_Of M0 (shape_side M0 (vec_Dot M0 (shape_edges M0 s').1 (vec_Cross M0 r'.d (shape_edges M0 s').2))).1))) (shape_atLeast M0 (span_Mul M0 (vec_Dot M0 r'.d (vec_Cross M0 (vec_Sub M0 r'.o s'.p.p0) (shape_edges M0 s').1)) (span_Of M0 (shape_side M0 (vec_Dot M0 (shape_edges M0 s').1 (vec_Cross M0 r'.d (shape_edges M0 s').2))).1))) (shape_atLeast M0 (span_Sub M0 (span_Mul M0 (vec_Dot M0 (shape_edges M0 s').1 (vec_Cross M0 r'.d (shape_edges M0 s').2)) (span_Of M0 (shape_side M0 (vec_Dot M0 (shape_edges M0 s').1 (vec_Cross M0 r'.d (shape_edges M0 s').2))).1)) (span_Add M0 (span_Mul M0 (vec_Dot M0 (vec_Sub M0 r'.o s'.p.p0) (vec_Cross M0 r'.d (shape_edges M0 s').2)) (span_Of M0 (shape_side M0 (vec_Dot M0 (shape_edges M0 s').1 (vec_Cross M0 r'.d (shape_edges M0 s').2))).1)) (span_Mul M0 (vec_Dot M0 r'.d (vec_Cross M0 (vec_Sub M0 r'.o s'.p.p0) (shape_edges M0 s').1)) (span_Of M0 (shape_side M0 (vec_Dot M0 (shape_edges M0 s').1 (vec_Cross M0 r'.d (shape_edges M0 s').2))).1))))) (span_Positive M0 (span_Mul M0 (vec_Dot M0 (shape_edges M0 s').2 (vec_Cross M0 (vec_Sub M0 r'.o s'.p.p0) (shape_edges M0 s').1)) (span_Of M0 (shape_side M0 (vec_Dot M0 (shape_edges M0 s').1 (vec_Cross M0 r'.d (shape_edges M0 s').2))).1))) = 1
      · rw [c2] at v2 ⊢
        rw [v2 (by decide), e, cond_false, cond_false]
        exact ⟨rfl, div_ni n15 n9, div_ni n11 n9, div_ni n13 n9⟩
      · have e2' : ∀ x : Int, x ≠ 1 → (x != 1) = true := fun x hx => by rw [bne_iff_ne]; exact hx
        rw [e2' _ c2, cond_true] at hw ⊢
        have h3 := v2 hw
        rw [h3, e2' _ c2, cond_true]
        exact ⟨rfl, ni_zero, ni_zero, ni_zero⟩
    · have e2' : ∀ x : Int, x ≠ 1 → (x != 1) = true := fun x hx => by rw [bne_iff_ne]; exact hx
      rw [e2' _ c1, cond_true, cond_true]
      exact hn_no _ _ fun _ => rfl

end Go.Lan

/- ShapeNests. -/
namespace Go.Lan

attribute [local irreducible] B

theorem bne_of {x y : Int} (h : x ≠ y) : (x != y) = true := by rw [bne_iff_ne]; exact h
theorem bne_not {x y : Int} (h : x = y) : (x != y) = false := by rw [bne_eq_false_iff_eq]; exact h
theorem beq_of {x y : Int} (h : x = y) : (x == y) = true := by rw [beq_iff_eq]; exact h
theorem beq_not {x y : Int} (h : x ≠ y) : (x == y) = false := by rw [beq_eq_false_iff_ne]; exact h

theorem cond_same (b : Bool) : cond b true true = true := by cases b <;> rfl

theorem quad_ni {s s' : LShape} {r r' : LRay} (hs : NShape s s') (hr : NRay r r') : NI (shape_quad M0 s r).1 (shape_quad M0 s' r').1 ∧ NI (shape_quad M0 s r).2.1 (shape_quad M0 s' r').2.1 ∧ NI (shape_quad M0 s r).2.2 (shape_quad M0 s' r').2.2 := by
  have ho := vsub_ni hr.o hs.p0
  exact ⟨vsqr_ni hr.d, vdot_ni ho hr.d, sub_ni (vsqr_ni ho) (sqr_ni hs.r)⟩

theorem hit_hn {n w : Int} {t t' : LSpan} (h : w ≠ 2 → n = w) (ht : NI t t') : HN (shape_hit M0 n t) (shape_hit M0 w t') := by
  unfold shape_hit
  intro hw
  by_cases c : w = 1
  · rw [bne_not c, cond_false] at hw ⊢
    rw [bne_not (x := n) (by rw [h (by omega)]; exact c), cond_false]
    exact ⟨rfl, ht, ni_zero, ni_zero⟩
  · rw [bne_of c, cond_true] at hw ⊢
    dsimp only at hw
    rw [bne_of (x := n) (by rw [h hw]; exact c), cond_true]
    exact ⟨h hw, ni_zero, ni_zero, ni_zero⟩

theorem least_one {a : LSpan} (h : SVs a) (h1 : shape_atLeast M0 a = 1) : M0.lt a.hi 0 = false := by
  obtain ⟨l, h, s⟩ := h
  rw [least_sv s] at h1
  have := s.le
  rw [s.hi, F_lt0 s.ph]
  refine decide_eq_false fun h2 => ?_
  rw [if_pos h2] at h1
  cases h1

theorem sphere_ni {s s' : LShape} {r r' : LRay} (hs : NShape s s') (hr : NRay r r') : HN (shape_sphere M0 s r) (shape_sphere M0 s' r') := by
  obtain ⟨ha, hb, hc⟩ := quad_ni hs hr
  unfold shape_sphere
  dsimp only
  generalize (shape_quad M0 s r).1 = a at *
  generalize (shape_quad M0 s r).2.1 = b at *
  generalize (shape_quad M0 s r).2.2 = c at *
  generalize (shape_quad M0 s' r').1 = a' at *
  generalize (shape_quad M0 s' r').2.1 = b' at *
  generalize (shape_quad M0 s' r').2.2 = c' at *
  have hd := sub_ni (sqr_ni hb) (mul_ni ha hc)
  generalize span_Sub M0 (span_Sqr M0 b) (span_Mul M0 a c) = d at *
  generalize span_Sub M0 (span_Sqr M0 b') (span_Mul M0 a' c') = d' at *
  have hin := all2_an (pos_an ha) (least_an hd)
  have hl1 : shape_all_s2 M0 (span_Positive M0 a) (shape_atLeast M0 d) = 1 → shape_atLeast M0 d = 1 := by
    rw [all2_eq]
    intro h
    split at h
    · cases h
    · split at h
      · omega
      · cases h
  generalize shape_all_s2 M0 (span_Positive M0 a) (shape_atLeast M0 d) = i at *
  generalize shape_all_s2 M0 (span_Positive M0 a') (shape_atLeast M0 d') = i' at *
  intro hw
  by_cases c1 : i' = 1
  · have ci : i = 1 := by rw [hin.2.1 (by omega)]; exact c1
    rw [bne_not c1, cond_false] at hw ⊢
    rw [bne_not ci, cond_false]
    have hroot := sqrt_ni hd (least_one hd.left (hl1 ci))
    have hnear := div_ni (sub_ni (neg_ni hb) hroot) ha
    have hfar := div_ni (add_ni (neg_ni hb) hroot) ha
    generalize span_Div M0 (span_Sub M0 (span_Neg M0 b) (span_Sqrt M0 d)) a = t at *
    generalize span_Div M0 (span_Sub M0 (span_Neg M0 b') (span_Sqrt M0 d')) a' = t' at *
    have hp := pos_an hnear
    by_cases c2 : span_Positive M0 t' = 0
    · rw [bne_not c2, cond_false] at hw ⊢
      rw [bne_not (x := span_Positive M0 t) (by rw [hp.2.1 (by omega)]; exact c2), cond_false]
      exact hit_hn (pos_an hfar).2.1 hfar hw
    · rw [bne_of c2, cond_true] at hw ⊢
      have : span_Positive M0 t' ≠ 2 := by
        intro h2
        rw [h2] at hw
        exact hw rfl
      rw [bne_of (x := span_Positive M0 t) (by rw [hp.2.1 this]; exact c2), cond_true]
      exact hit_hn hp.2.1 hnear hw
  · rw [bne_of c1, cond_true] at hw ⊢
    dsimp only at hw
    have hi := hin.2.1 hw
    rw [bne_of (x := i) (by rw [hi]; exact c1), cond_true]
    exact ⟨hi, ni_zero, ni_zero, ni_zero⟩

theorem meet_ni {s s' : LShape} {r r' : LRay} (hs : NShape s s') (hr : NRay r r') : HN (shape_Meet M0 s r) (shape_Meet M0 s' r') := by
  unfold shape_Meet
  rw [hs.kind]
  cases (s'.kind == 1)
  · rw [cond_false, cond_false]
    cases (s'.kind == 2)
    · exact hn_no _ _ fun _ => rfl
    · exact sphere_ni hs hr
  · exact tri_ni hs hr
/-! ### They never panic -/
theorem quad_sv {s : LShape} {r : LRay} (hs : SShape s) (hr : SRay r) : (SVs (shape_quad M0 s r).1 ∧ SVs (shape_quad M0 s r).2.1 ∧ SVs (shape_quad M0 s r).2.2) ∧ shape_quad.ok M0 s r = true := by
  obtain ⟨ha, hb, hc⟩ := quad_ni (NShape.refl hs) (NRay.refl hr)
  refine ⟨⟨ha.left, hb.left, hc.left⟩, ?_⟩
  have ho := (vsub_ni (NI3.refl hr.o) (NI3.refl hs.p0)).left
  unfold shape_quad.ok
  dsimp only
  rw [vsub_ok hr.o hs.p0, vsqr_ok hr.d, vdot_ok ho hr.d, vsqr_ok ho, sqr_ok hs.r, sub_ok (vsqr_ni (NI3.refl ho)).left (svs_sqr hs.r)]
  rfl
theorem sphere_ok {s : LShape} {r : LRay} (hs : SShape s) (hr : SRay r) : shape_sphere.ok M0 s r = true := by
  obtain ⟨⟨ha, hb, hc⟩, o⟩ := quad_sv hs hr
  unfold shape_sphere.ok
  dsimp only
  rw [o, cond_true]
  generalize (shape_quad M0 s r).1 = a at *
  generalize (shape_quad M0 s r).2.1 = b at *
  generalize (shape_quad M0 s r).2.2 = c at *
  have hd := svs_sub (svs_sqr hb) (svs_mul ha hc)
  rw [sqr_ok hb, mul_ok ha hc, sub_ok (svs_sqr hb) (svs_mul ha hc)]
  simp only [cond_true]
  generalize span_Sub M0 (span_Sqr M0 b) (span_Mul M0 a c) = d at *
  have hr := svs_sqrt hd
  rw [sqrt_ok hd, sub_ok (svs_neg hb) hr, div_ok (svs_sub (svs_neg hb) hr) ha, add_ok (svs_neg hb) hr, div_ok (NI.svs_add (svs_neg hb) hr) ha]
  cases (shape_all_s2 M0 (span_Positive M0 a) (shape_atLeast M0 d) != 1)
  · simp only [cond_false, cond_true]
    cases (span_Positive M0 (span_Div M0 (span_Sub M0 (span_Neg M0 b) (span_Sqrt M0 d)) a) != 0) <;> rfl
  · rfl
theorem tri_ok {s : LShape} {r : LRay} (hs : SShape s) (hr : SRay r) : shape_triangle.ok M0 s r = true := by
  obtain ⟨e1, e2⟩ := edges_ni (NI3.refl hs.p0) (NI3.refl hs.p1) (NI3.refl hs.p2)
  have e1 := e1.left
  have e2 := e2.left
  have hp := (vcross_ni (NI3.refl hr.d) (NI3.refl e2)).left
  have hdet := (vdot_ni (NI3.refl e1) (NI3.refl hp)).left
  have ho := (vsub_ni (NI3.refl hr.o) (NI3.refl hs.p0)).left
  have hq := (vcross_ni (NI3.refl ho) (NI3.refl e1)).left
  obtain ⟨s1, s2⟩ := side_at hdet
  unfold shape_triangle.ok
  dsimp only
  rw [edges_ok hs.p0 hs.p1 hs.p2, vcross_ok hr.d e2, vdot_ok e1 hp]
  simp only [cond_true]
  by_cases c1 : (shape_side M0 (vec_Dot M0 (shape_edges M0 s).1 (vec_Cross M0 r.d (shape_edges M0 s).2))).2 = 1
  · rw [bne_not c1, cond_false]
    have k := s2 c1
    have h1 := (vdot_ni (NI3.refl ho) (NI3.refl hp)).left
    have h2 := (vdot_ni (NI3.refl hr.d) (NI3.refl hq)).left
    have h3 := (vdot_ni (NI3.refl e2) (NI3.refl hq)).left
    rw [vsub_ok hr.o hs.p0, vcross_ok ho e1, s1, mul_ok hdet k, vdot_ok ho hp, mul_ok h1 k, vdot_ok hr.d hq, mul_ok h2 k, vdot_ok e2 hq, mul_ok h3 k, add_ok (svs_mul h1 k) (svs_mul h2 k), sub_ok (svs_mul hdet k) (NI.svs_add (svs_mul h1 k) (svs_mul h2 k)), div_ok (svs_mul h3 k) (svs_mul hdet k), div_ok (svs_mul h1 k) (svs_mul hdet k), div_ok (svs_mul h2 k) (svs_mul hdet k)]
    simp only [cond_true]
    exact cond_same _
  · rw [bne_of c1, cond_true]
theorem meet_ok {s : LShape} {r : LRay} (hs : SShape s) (hr : SRay r) : shape_Meet.ok M0 s r = true := by
  unfold shape_Meet.ok
  rw [tri_ok hs hr, sphere_ok hs hr]
  cases (s.kind == 1) <;> cases (s.kind == 2) <;> rfl
/-! ### The statement -/
def WShape (s : LShape) : Prop := W6 s.p.p0 ∧ W6 s.p.p1 ∧ W6 s.p.p2 ∧ W2 s.r
def WRay (r : LRay) : Prop := W6 r.o ∧ W6 r.d

theorem validS {s : LShape} (hw : WShape s) : (lanternref10_Valid M0 s = true → SShape s) ∧ lanternref10_Valid.ok M0 s = true := by
  obtain ⟨v0, o0⟩ := valid3_sv hw.1
  obtain ⟨v1, o1⟩ := valid3_sv hw.2.1
  obtain ⟨v2, o2⟩ := valid3_sv hw.2.2.1
  obtain ⟨v3, o3⟩ := valid_sv hw.2.2.2
  unfold lanternref10_Valid lanternref10_Valid.ok
  rw [o0, o1, o2, o3]
  generalize (s.kind == 1) = k1
  generalize (s.kind == 2) = k2
  constructor
  · intro h
    cases h0 : lanternref03_Valid M0 s.p.p0 with
    | false => rw [h0] at h; cases k1 <;> cases k2 <;> cases h
    | true =>
      cases h1 : lanternref03_Valid M0 s.p.p1 with
      | false => rw [h0, h1] at h; cases k1 <;> cases k2 <;> cases h
      | true =>
        cases h2 : lanternref03_Valid M0 s.p.p2 with
        | false => rw [h0, h1, h2] at h; cases k1 <;> cases k2 <;> cases h
        | true =>
          rw [h0, h1, h2] at h
          refine ⟨v0 h0, v1 h1, v2 h2, v3 ?_⟩
          cases k1
          · cases k2
            · cases h
            · exact h
          · exact h
  · cases lanternref03_Valid M0 s.p.p0 <;> cases lanternref03_Valid M0 s.p.p1 <;> cases lanternref03_Valid M0 s.p.p2 <;> cases k1 <;> cases k2 <;> rfl
theorem awake10 : lanternlaw10_Awake M0 = true := by kernel_rfl
theorem awakeok10 : lanternlaw10_Awake.ok M0 = true := by kernel_rfl

end Go.Lan

/- The document's words of 128 bits: lengths, shifts, out of a float. -/
namespace Go.Lan

attribute [local irreducible] B

/-- A word of the document. -/
def lw (N : Nat) (e : Int) (more : Bool) : LWord := ⟨(N / m64 : Nat), (N % m64 : Nat), e, more⟩
def ofX (x : LExact) : LWord := ⟨x.hi, x.lo, x.e, x.more⟩
theorem ofX_ex (neg : Bool) (N : Nat) (e : Int) (more : Bool) : ofX (ex neg N e more) = lw N e more := rfl

theorem lw_small {m : Nat} (h : m < m64) (e : Int) (more : Bool) : lw m e more = ⟨0, m, e, more⟩ := by
  unfold lw
  rw [Nat.div_eq_of_lt h, Nat.mod_eq_of_lt h]
  rfl

/-! ### Lengths -/
theorem len_stage {x k n : Nat} {b : Bool} (hx : x < 2 ^ (2 * k)) (hk : k ≤ 32) (hn : n < 1000) (hb : ((shrV .u64 (x : Int) k : Int) != 0) = b) :
    ∃ x' n' : Nat, cond b (IntKind.i64.wrap ((n : Int) + k)) (n : Int) = n' ∧ cond b (shrV .u64 (x : Int) k) (x : Int) = x' ∧ x' < 2 ^ k ∧ n' + blen x' = n + blen x ∧ n' ≤ n + k := by
  have hm := hm64
  have hx64 : x < m64 := by
    rw [m64_eq]
    exact Nat.lt_of_lt_of_le hx (Nat.pow_le_pow_right (by omega) (by omega))
  rw [u_shr hx64 k] at hb ⊢
  by_cases h : 2 ^ k ≤ x
  · have h1 : 0 < x / 2 ^ k := Nat.div_pos h (Nat.two_pow_pos k)
    have : b = true := by rw [← hb]; simp only [bne_iff_ne, ne_eq]; omega
    subst this
    refine ⟨x / 2 ^ k, n + k, by rw [cond_true, i_in (by omega)]; omega, rfl, ?_, ?_, Nat.le_refl _⟩
    · exact Nat.div_lt_of_lt_mul (by rw [← Nat.pow_add, ← Nat.two_mul]; exact hx)
    · rw [blen_div h]; omega
  · have h1 : x / 2 ^ k = 0 := Nat.div_eq_of_lt (by omega)
    have : b = false := by rw [← hb, h1]; rfl
    subst this
    exact ⟨x, n, rfl, rfl, by omega, rfl, by omega⟩

theorem length_lw {N : Nat} (h : N < m64 * m64) (e : Int) (more : Bool) : lanternref01_Length M0 (lw N e more) = (blen N : Nat) := by
  have hm := hm64
  have h1 : N / m64 < m64 := Nat.div_lt_of_lt_mul h
  have h2 : N % m64 < m64 := Nat.mod_lt _ (by omega)
  -- the first choice
  have first : ∃ x n : Nat, cond ((((N / m64 : Nat) : Int)) != 0) (64 : Int) 0 = (n : Int) ∧ cond ((((N / m64 : Nat) : Int)) != 0) ((N / m64 : Nat) : Int) ((N % m64 : Nat) : Int) = (x : Int) ∧ x < 2 ^ 64 ∧ n + blen x = blen N ∧ n ≤ 64 := by
    by_cases h3 : N / m64 = 0
    · have h4 : N % m64 = N := Nat.mod_eq_of_lt (by
        rcases Nat.lt_or_ge N m64 with h5 | h5
        · exact h5
        · have := (Nat.le_div_iff_mul_le (by omega : 0 < m64)).2 (by simpa using h5 : 1 * m64 ≤ N)
          omega)
      refine ⟨N, 0, ?_, ?_, by rw [← m64_eq]; omega, by omega, by omega⟩
      · rw [h3]; rfl
      · rw [h3, h4]; rfl
    · have h5 : (((N / m64 : Nat) : Int) != 0) = true := by simp only [bne_iff_ne, ne_eq]; omega
      have h6 : 2 ^ 64 ≤ N := by
        rw [← m64_eq]
        rcases Nat.lt_or_ge N m64 with h5 | h5
        · rw [Nat.div_eq_of_lt h5] at h3; omega
        · exact h5
      have h7 := blen_div h6
      rw [← m64_eq] at h7
      refine ⟨N / m64, 64, by rw [h5]; rfl, by rw [h5]; rfl, by rw [← m64_eq]; exact h1, by omega, by omega⟩
  obtain ⟨x0, n0, e1, e2, b0, s0, l0⟩ := first
  unfold lanternref01_Length lw
  dsimp only
  rw [e1, e2]
  obtain ⟨x1, n1, e3, e4, b1, s1, l1⟩ := len_stage (k := 32) (n := n0) b0 (by omega) (by omega) rfl
  have e3 := e3; have e4 := e4
  simp only [show ((32 : Nat) : Int) = 32 from rfl] at e3 e4
  rw [e3, e4]
  obtain ⟨x2, n2, e5, e6, b2, s2, l2⟩ := len_stage (k := 16) (n := n1) b1 (by omega) (by omega) rfl
  simp only [show ((16 : Nat) : Int) = 16 from rfl] at e5 e6
  rw [e5, e6]
  obtain ⟨x3, n3, e7, e8, b3, s3, l3⟩ := len_stage (k := 8) (n := n2) b2 (by omega) (by omega) rfl
  simp only [show ((8 : Nat) : Int) = 8 from rfl] at e7 e8
  rw [e7, e8]
  obtain ⟨x4, n4, e9, e10, b4, s4, l4⟩ := len_stage (k := 4) (n := n3) b3 (by omega) (by omega) rfl
  simp only [show ((4 : Nat) : Int) = 4 from rfl] at e9 e10
  rw [e9, e10]
  obtain ⟨x5, n5, e11, e12, b5, s5, l5⟩ := len_stage (k := 2) (n := n4) b4 (by omega) (by omega) rfl
  simp only [show ((2 : Nat) : Int) = 2 from rfl] at e11 e12
  rw [e11, e12]
  obtain ⟨x6, n6, e13, e14, b6, s6, l6⟩ := len_stage (k := 1) (n := n5) b5 (by omega) (by omega) rfl
  simp only [show ((1 : Nat) : Int) = 1 from rfl] at e13 e14
  rw [e13, e14]
  have hx6 : blen x6 = x6 := by
    have : x6 = 0 ∨ x6 = 1 := by omega
    rcases this with h | h <;> subst h <;> decide
  rw [i_in (n := (x6 : Int)) (by omega), i_in (by omega)]
  omega

/-! ### Out of a float -/
theorem part_split (x : Nat) (h : M0.and .u64 (shrV .u64 (f64bits x) 52) 2047 = IntKind.i64.wrap (M0.and .u64 (shrV .u64 (f64bits x) 52) 2047)) (h0 : 0 ≤ M0.and .u64 (shrV .u64 (f64bits x) 52) 2047) :
    lanternref01_Part M0 x = (ofX (round_split M0 x), (round_split M0 x).neg) := by
  unfold lanternref01_Part round_split
  dsimp only
  rw [← h]
  generalize M0.and .u64 (shrV .u64 (f64bits x) 52) 2047 = u at *
  by_cases hu : u = 0
  · subst hu
    rfl
  · have d1 : decide (u > 0) = true := decide_eq_true (by omega)
    have d2 : (u == 0) = false := by rw [beq_eq_false_iff_ne]; exact hu
    rw [d1, d2, cond_true, cond_false]
    rfl

theorem part_wd {neg : Bool} {r : Nat} (h : r < I) : ∃ m e : Nat, lanternref01_Part M0 (wd neg r) = (lw m ((e : Int) - 1074) false, neg) ∧ round_split M0 (wd neg r) = ex neg m ((e : Int) - 1074) false ∧ V r = m * 2 ^ e ∧ r = e * B + m ∧ m < 2 * B ∧ (e = 0 ∨ B ≤ m) ∧ e < 2046 := by
  obtain ⟨m, e, h1, h2, h3, h4, h5, h6⟩ := split_wd (neg := neg) h
  have hI := I_eq
  have hm := hm64
  have hw : wd neg r < m64 := by unfold wd; split <;> omega
  have f2 : shrV .u64 ((wd neg r : Nat) : Int) 52 = ((wd neg r / 4503599627370496 : Nat) : Int) := u_shr hw 52
  have f3 : M0.and .u64 ((wd neg r / 4503599627370496 : Nat) : Int) 2047 = ((wd neg r / 4503599627370496 % 2048 : Nat) : Int) := by
    have := u_and (a := wd neg r / 4503599627370496) (by omega) (show 2047 < m64 by omega)
    rw [show (2047 : Nat) = 2 ^ 11 - 1 by decide, and_low] at this
    exact this
  refine ⟨m, e, ?_, h1, h2, h3, h4, h5, h6⟩
  rw [part_split, h1]
  · rfl
  · rw [show f64bits (wd neg r) = ((wd neg r : Nat) : Int) from rfl, f2, f3, i_in (by omega)]
  · rw [show f64bits (wd neg r) = ((wd neg r : Nat) : Int) from rfl, f2, f3]
    omega

theorem partok_wd {neg : Bool} {r : Nat} (h : r ≤ I) : lanternref01_Part.ok M0 (wd neg r) = true := by
  unfold lanternref01_Part.ok
  rw [bitsok_wd h]; rfl

/-! ### Shifts -/
theorem up_left (neg : Bool) (w : LWord) (n : Int) : lanternref01_Up M0 w n = ofX (round_exact_left M0 ⟨neg, w.hi, w.lo, w.e, w.more⟩ n) ∧ lanternref01_Up.ok M0 w n = round_exact_left.ok M0 ⟨neg, w.hi, w.lo, w.e, w.more⟩ n := by
  unfold lanternref01_Up round_exact_left lanternref01_Up.ok round_exact_left.ok
  cases decide (n ≥ 64) <;> cases decide (n > 0) <;> exact ⟨rfl, rfl⟩

theorem up_lw {N n : Nat} (h : N * 2 ^ n < m64 * m64) (hn : n < 1000) (e : Int) (he : -100000 < e ∧ e < 100000) (more : Bool) :
    lanternref01_Up M0 (lw N e more) (n : Int) = lw (N * 2 ^ n) (e - n) more ∧ lanternref01_Up.ok M0 (lw N e more) (n : Int) = true := by
  obtain ⟨h1, h2⟩ := up_left false (lw N e more) (n : Int)
  obtain ⟨h3, h4⟩ := left_ex false h hn e he more
  rw [h1, h2]
  exact ⟨(congrArg ofX h3).trans rfl, h4⟩

theorem down_zero (w : LWord) : lanternref01_Down M0 w 0 = w ∧ lanternref01_Down.ok M0 w 0 = true := ⟨rfl, rfl⟩
theorem down_neg (w : LWord) {n : Int} (h : n ≤ 0) : lanternref01_Down M0 w n = w ∧ lanternref01_Down.ok M0 w n = true := by
  unfold lanternref01_Down lanternref01_Down.ok
  rw [decide_eq_true h]
  exact ⟨rfl, rfl⟩

theorem down_lw {N n : Nat} (h : N < m64 * m64) (h0 : 0 < n) (hn : n < 100000) (e : Int) (he : -100000 < e ∧ e < 100000) (more : Bool) :
    lanternref01_Down M0 (lw N e more) (n : Int) = lw (N / 2 ^ n) (e + n) (more || decide (N % 2 ^ n ≠ 0)) ∧ lanternref01_Down.ok M0 (lw N e more) (n : Int) = true := by
  have hm := hm64
  obtain ⟨r1, r2⟩ := right_ex false h h0 hn e he more
  have r3 := congrArg ofX r1
  rw [ofX_ex] at r3
  have hl : N % m64 < m64 := Nat.mod_lt _ (by omega)
  have hh : N / m64 < m64 := Nat.div_lt_of_lt_mul h
  by_cases h1 : 64 ≤ n
  · have d1 : decide ((n : Int) ≤ 0) = false := decide_eq_false (by omega)
    have d2 : decide ((n : Int) ≥ 64) = true := decide_eq_true (by omega)
    have e1 : IntKind.i64.wrap ((n : Int) - 64) = ((n - 64 : Nat) : Int) := by rw [i_in (by omega)]; omega
    have hp := Nat.two_pow_pos (n - 64)
    have hq : 2 ^ n = m64 * 2 ^ (n - 64) := by rw [m64_eq, ← Nat.pow_add]; congr 1; omega
    have k1 : N / 2 ^ n = N / m64 / 2 ^ (n - 64) := by rw [hq, Nat.div_div_eq_div_mul]
    have k2 : N % 2 ^ n = N % m64 + m64 * (N / m64 % 2 ^ (n - 64)) := by rw [hq, Nat.mod_mul]
    have hs : N / m64 / 2 ^ (n - 64) < m64 := Nat.lt_of_le_of_lt (Nat.div_le_self _ _) hh
    have zero_bne : ∀ x : Nat, (((x : Nat) : Int) != 0) = decide (x ≠ 0) := by
      intro x
      rw [Bool.eq_iff_iff, bne_iff_ne, decide_eq_true_eq]; omega
    rw [k1, lw_small hs, k2]
    unfold lanternref01_Down lanternref01_Down.ok lw
    generalize N / m64 = hi at *
    generalize N % m64 = lo at *
    dsimp only
    rw [d1, d2, e1, i_in (n := e + n) (by omega)]
    simp only [cond_true, cond_false]
    have comb : ∀ p : Bool, decide (lo + m64 * p.toNat ≠ 0) = (decide (lo ≠ 0) || p) := by
      intro p
      rw [Bool.eq_iff_iff]
      cases p <;> simp <;> omega
    have hc : decide (lo + m64 * (hi % 2 ^ (n - 64)) ≠ 0) = (decide (lo ≠ 0) || decide (hi % 2 ^ (n - 64) ≠ 0)) := by
      rw [Bool.eq_iff_iff]
      simp only [decide_eq_true_eq, Bool.or_eq_true]
      constructor
      · intro h3
        rcases Nat.eq_zero_or_pos lo with h4 | h4
        · right
          intro h5
          rw [h5, h4] at h3
          simp at h3
        · left; omega
      · rintro (h3 | h3)
        · omega
        · have := Nat.mul_ne_zero (show m64 ≠ 0 by omega) h3
          omega
    rw [hc]
    by_cases hz : hi = 0
    · subst hz
      have c0 : ((((0 : Nat) : Nat) : Int) == 0) = true := rfl
      rw [c0]
      simp only [cond_true]
      rw [Nat.zero_div, Nat.zero_mod]
      cases more
      · rw [zero_bne]
        simp
      · simp
    · have c0 : (((hi : Nat) : Int) == 0) = false := by rw [beq_eq_false_iff_ne]; omega
      rw [c0]
      simp only [cond_false]
      by_cases h2 : 128 ≤ n
      · have d3 : decide (((n - 64 : Nat) : Int) ≥ 64) = true := decide_eq_true (by omega)
        rw [d3]
        have hlt : hi < 2 ^ (n - 64) := Nat.lt_of_lt_of_le hh (by rw [m64_eq]; exact Nat.pow_le_pow_right (by omega) (by omega))
        rw [Nat.div_eq_of_lt hlt, Nat.mod_eq_of_lt hlt]
        simp only [cond_true]
        rw [zero_bne, zero_bne]
        have : decide (hi ≠ 0) = true := decide_eq_true hz
        rw [this]
        cases more <;> cases decide (lo ≠ 0) <;> exact ⟨rfl, rfl⟩
      · have d3 : decide (((n - 64 : Nat) : Int) ≥ 64) = false := decide_eq_false (by omega)
        have d5 : decide ((0 : Int) ≤ ((n - 64 : Nat) : Int)) = true := decide_eq_true (by omega)
        rw [d3, d5]
        simp only [cond_false, cond_true]
        by_cases h3 : n = 64
        · subst h3
          have d4 : decide (((64 - 64 : Nat) : Int) > 0) = false := rfl
          rw [d4]
          simp only [cond_false, Nat.sub_self, Nat.pow_zero, Nat.div_one, Nat.mod_one]
          rw [zero_bne]
          cases more <;> simp
        · have d4 : decide (((n - 64 : Nat) : Int) > 0) = true := decide_eq_true (by omega)
          rw [d4]
          have e2 : IntKind.i64.wrap (64 - ((n - 64 : Nat) : Int)) = ((128 - n : Nat) : Int) := by rw [i_in (by omega)]; omega
          have d6 : decide ((0 : Int) ≤ ((128 - n : Nat) : Int)) = true := decide_eq_true (by omega)
          rw [e2, d6, u_shr hh, u_shl hi]
          have z1 : shrV .u64 0 ((n - 64 : Nat) : Int) = 0 := by
            have := u_shr (x := 0) (by omega) (n - 64)
            rw [Nat.zero_div] at this
            exact this
          have z2 : shlV .u64 0 ((128 - n : Nat) : Int) = 0 := by
            have := u_shl 0 (128 - n)
            rw [Nat.zero_mul, Nat.zero_mod] at this
            exact this
          have z3 : M0.or .u64 ((hi / 2 ^ (n - 64) : Nat) : Int) 0 = ((hi / 2 ^ (n - 64) : Nat) : Int) := by
            have := u_or (a := hi / 2 ^ (n - 64)) (b := 0) hs (by omega)
            rw [Nat.or_zero] at this
            exact this
          have k3 : hi * 2 ^ (128 - n) % m64 = (hi % 2 ^ (n - 64)) * 2 ^ (128 - n) := by
            have : m64 = 2 ^ (n - 64) * 2 ^ (128 - n) := by rw [m64_eq, ← Nat.pow_add]; congr 1; omega
            rw [this, Nat.mul_mod_mul_right]
          have hp3 := Nat.two_pow_pos (128 - n)
          have k4 : decide (hi % 2 ^ (n - 64) * 2 ^ (128 - n) ≠ 0) = decide (hi % 2 ^ (n - 64) ≠ 0) := by
            rw [Bool.eq_iff_iff, decide_eq_true_eq, decide_eq_true_eq]
            constructor
            · intro h4 h5
              rw [h5, Nat.zero_mul] at h4
              exact h4 rfl
            · intro h4
              exact Nat.mul_ne_zero h4 (by omega)
          rw [z1, z2, z3, k3, zero_bne, zero_bne, k4]
          simp only [cond_true]
          cases more <;> cases decide (lo ≠ 0) <;> exact ⟨rfl, rfl⟩
  · have d1 : decide ((n : Int) ≤ 0) = false := decide_eq_false (by omega)
    have d2 : decide ((n : Int) ≥ 64) = false := decide_eq_false (by omega)
    have d3 : decide ((n : Int) > 0) = true := decide_eq_true (by omega)
    have d4 : decide ((n : Int) ≥ 128) = false := decide_eq_false (by omega)
    have d5 : decide ((0 : Int) ≤ (n : Int)) = true := decide_eq_true (by omega)
    have d6 : decide ((0 : Int) ≤ IntKind.i64.wrap (64 - (n : Int))) = true := decide_eq_true (by rw [i_in (by omega)]; omega)
    rw [← r3]
    unfold lanternref01_Down lanternref01_Down.ok round_exact_right
    dsimp only
    rw [d1, d2, d3, d4, d5, d6]
    rw [show (ex false N e more).more = more from rfl, show (lw N e more).more = more from rfl]
    cases more <;> exact ⟨rfl, rfl⟩

end Go.Lan

/- The document's rounding is the program's. -/
namespace Go.Lan

attribute [local irreducible] B

/-! ### Powers of 2 -/
theorem power_spec {E : Nat} (hE : E ≤ 2097) : ∃ r : Nat, lanternref01_power M0 ((E : Int) - 1074) = r ∧ lanternref01_power.ok M0 ((E : Int) - 1074) = true ∧ V r = 2 ^ E ∧ r < I := by
  have hB := B_val
  have hB2 := B_eq
  have hI := I_eq
  have hm := hm64
  unfold lanternref01_power lanternref01_power.ok
  by_cases h : 52 ≤ E
  · have d1 : decide ((E : Int) - 1074 ≥ -1022) = true := decide_eq_true (by omega)
    rw [d1, cond_true, cond_true]
    obtain ⟨k, hk⟩ : ∃ k : Nat, E = k + 52 := ⟨E - 52, by omega⟩
    have hkB : (k + 1) * B ≤ 2046 * B := Nat.mul_le_mul_right _ (by omega)
    have e1 : IntKind.u64.wrap (IntKind.i64.wrap ((E : Int) - 1074 + 1023)) = ((k + 1 : Nat) : Int) := by
      rw [i_in (by omega), show (E : Int) - 1074 + 1023 = ((k + 1 : Nat) : Int) by omega, u_wrap_lt (by omega)]
    have e2 : shlV .u64 ((k + 1 : Nat) : Int) 52 = (((k + 1) * B : Nat) : Int) := by
      have := u_shl (k + 1) 52
      rw [← hB2] at this
      rw [show (((52 : Nat) : Int)) = 52 from rfl] at this
      rw [this, Nat.mod_eq_of_lt (by omega)]
    rw [e1, e2]
    refine ⟨(k + 1) * B, ?_, rfl, ?_, by omega⟩
    · unfold f64from; exact Int.toNat_natCast _
    · have h1 : V (k * B + B) = B * 2 ^ k := V_mk (by omega) (.inr (Nat.le_refl _))
      rw [show (k + 1) * B = k * B + B by rw [Nat.add_mul, Nat.one_mul], h1, hB2, ← Nat.pow_add, Nat.add_comm, hk]
  · have d1 : decide ((E : Int) - 1074 ≥ -1022) = false := decide_eq_false (by omega)
    rw [d1, cond_false, cond_false]
    have hlt : 2 ^ E < B := by
      rw [hB2]
      exact Nat.pow_lt_pow_right (by omega) (by omega)
    have e1 : IntKind.i64.wrap ((E : Int) - 1074 + 1074) = (E : Int) := by rw [i_in (by omega)]; omega
    have e2 : shlV .u64 1 (E : Int) = ((2 ^ E : Nat) : Int) := by
      have := u_shl 1 E
      rw [Nat.one_mul, Nat.mod_eq_of_lt (by omega)] at this
      exact this
    rw [e1, e2]
    refine ⟨2 ^ E, ?_, ?_, ?_, by omega⟩
    · unfold f64from; exact Int.toNat_natCast _
    · have d2 : decide ((0 : Int) ≤ (E : Int)) = true := decide_eq_true (by omega)
      rw [d2]; rfl
    · unfold V
      rw [if_pos hlt]

theorem V_I_pow {y : Nat} (hy : y = 2098) : V I = 2 ^ y := by
  obtain ⟨x, hx⟩ : ∃ x : Nat, x = 2046 := ⟨_, rfl⟩
  rw [V_I hx, B_eq, ← Nat.pow_add]
  congr 1
  omega

/-- The last product is exact. -/
theorem near_mul {m E p : Nat} (hm : m ≤ 2 * B) (hE : E ≤ 2097) (hp : V p = m * 2 ^ E) (hpI : p < I) :
    M0.mul (M0.ofInt (m : Int)) (lanternref01_power M0 ((E : Int) - 1074)) = p ∧ lanternref01_power.ok M0 ((E : Int) - 1074) = true := by
  obtain ⟨r2, h1, h2, h3, h4⟩ := power_spec hE
  obtain ⟨c, hc⟩ : ∃ c : Nat, c = 1074 := ⟨_, rfl⟩
  obtain ⟨r1, h5⟩ := rung_of hm c
  have h6 : r1 < I := by
    have hB := B_eq
    obtain ⟨y, hy⟩ : ∃ y : Nat, y = 2098 := ⟨_, rfl⟩
    rw [← V_lt_iff, h5, V_I_pow hy]
    have : m * 2 ^ c < 2 ^ 54 * 2 ^ c := Nat.mul_lt_mul_of_pos_right (by omega) (Nat.two_pow_pos c)
    rw [← Nat.pow_add] at this
    exact Nat.lt_of_lt_of_le this (Nat.pow_le_pow_right (by omega) (by omega))
  rw [h1, ofInt_nat h6 hc h5]
  refine ⟨?_, h2⟩
  have := mul_exact (n1 := false) (n2 := false) h6 h4 hpI hc (by rw [h5, h3, hp]; rw [Nat.mul_right_comm])
  exact this

/-! ### The tail of Near -/
def nearT (M : Prims) (greater : Bool) (x9 : Int) (x7 : LWord) : Nat :=
  cond ((x9 : Int) == 0)
    0
    (cond (decide ((IntKind.i64.wrap ((IntKind.i64.wrap ((lanternref01_Length M (⟨0, x9, 0, false⟩ : LWord)) - 1)) + x7.e)) > 1023))
      (cond greater (lanternref01_Inf M) (lanternref01_Most M))
      (cond (decide (x7.e ≥ (-1074)))
        (cond (decide (x7.e ≤ 971))
          (M.mul (M.ofInt x9) (lanternref01_power M x7.e))
          (let x23 := lanternref01_Near.L17 M x9 x7.hi x7.lo x7.e x7.more
           let x27 := lanternref01_Near.L20 M x23.1 x23.2.1 x23.2.2.1 x23.2.2.2.1 x23.2.2.2.2
           M.mul (M.ofInt x27.1) (lanternref01_power M x27.2.2.2.1)))
        (let x31 := lanternref01_Near.L17 M x9 x7.hi x7.lo x7.e x7.more
         let x32 := lanternref01_Near.L20 M x31.1 x31.2.1 x31.2.2.1 x31.2.2.2.1 x31.2.2.2.2
         M.mul (M.ofInt x32.1) (lanternref01_power M x32.2.2.2.1))))
def nearTok (M : Prims) (x9 : Int) (x7 : LWord) : Bool :=
  cond ((x9 : Int) == 0)
    true
    (cond (decide ((IntKind.i64.wrap ((IntKind.i64.wrap ((lanternref01_Length M (⟨0, x9, 0, false⟩ : LWord)) - 1)) + x7.e)) > 1023))
      true
      (cond (decide (x7.e ≥ (-1074)))
        (cond (decide (x7.e ≤ 971))
          (cond (lanternref01_power.ok M x7.e) true false)
          (let x23 := lanternref01_Near.L17 M x9 x7.hi x7.lo x7.e x7.more
           cond (lanternref01_Near.L17.ok M x9 x7.hi x7.lo x7.e x7.more)
             (cond (lanternref01_Near.L20.ok M x23.1 x23.2.1 x23.2.2.1 x23.2.2.2.1 x23.2.2.2.2)
               (cond (lanternref01_power.ok M (lanternref01_Near.L20 M x23.1 x23.2.1 x23.2.2.1 x23.2.2.2.1 x23.2.2.2.2).2.2.2.1) true false)
               false)
             false))
        (let x31 := lanternref01_Near.L17 M x9 x7.hi x7.lo x7.e x7.more
         cond (lanternref01_Near.L17.ok M x9 x7.hi x7.lo x7.e x7.more)
           (cond (lanternref01_Near.L20.ok M x31.1 x31.2.1 x31.2.2.1 x31.2.2.2.1 x31.2.2.2.2)
             (cond (lanternref01_power.ok M (lanternref01_Near.L20 M x31.1 x31.2.1 x31.2.2.1 x31.2.2.2.1 x31.2.2.2.2).2.2.2.1) true false)
             false)
           false)))
theorem near_eq (M : Prims) (w : LWord) (greater : Bool) : lanternref01_Near M w greater =
    (let x2 := IntKind.i64.wrap ((lanternref01_Length M w) - 53)
     let x7 := lanternref01_Down M w (cond (decide ((IntKind.i64.wrap ((-1074) - w.e)) > x2)) (IntKind.i64.wrap ((-1074) - w.e)) x2)
     cond x7.more (nearT M greater (cond greater (IntKind.u64.wrap (x7.lo + 1)) x7.lo) x7) (nearT M greater (cond false (IntKind.u64.wrap (x7.lo + 1)) x7.lo) x7)) := rfl
theorem nearok_eq (M : Prims) (w : LWord) (greater : Bool) : lanternref01_Near.ok M w greater =
    (let x2 := IntKind.i64.wrap ((lanternref01_Length M w) - 53)
     let x6 := cond (decide ((IntKind.i64.wrap ((-1074) - w.e)) > x2)) (IntKind.i64.wrap ((-1074) - w.e)) x2
     let x7 := lanternref01_Down M w x6
     cond (lanternref01_Down.ok M w x6) (cond x7.more (nearTok M (cond greater (IntKind.u64.wrap (x7.lo + 1)) x7.lo) x7) (nearTok M (cond false (IntKind.u64.wrap (x7.lo + 1)) x7.lo) x7)) false) := rfl

theorem l17_run (hi lo : Int) (more : Bool) : ∀ (k n m : Nat), k < n → k < 1000 → m * 2 ^ k < m64 →
    runL (lanternref01_Near.L17.step M0) n ((m : Int), hi, lo, 971 + (k : Int), more) = some (((m * 2 ^ k : Nat) : Int), hi, lo, 971, more)
  | 0, n + 1, m, _, _, _ => by
    unfold runL lanternref01_Near.L17.step lanternref01_Near.L17.k
    rw [Nat.pow_zero, Nat.mul_one]
    rfl
  | k + 1, n + 1, m, h, hk, h2 => by
    have hm := hm64
    have hp := Nat.two_pow_pos k
    have e0 : m * 2 ^ (k + 1) = m * 2 * 2 ^ k := by rw [Nat.pow_succ, Nat.mul_assoc, Nat.mul_comm 2]
    have h3 : m * 2 < m64 := Nat.lt_of_le_of_lt (by rw [e0]; exact Nat.le_mul_of_pos_right _ hp) h2
    have st : lanternref01_Near.L17.step M0 ((m : Int), hi, lo, 971 + ((k + 1 : Nat) : Int), more) = some (true, (((m * 2 : Nat) : Int), hi, lo, 971 + (k : Int), more)) := by
      unfold lanternref01_Near.L17.step lanternref01_Near.L17.k
      dsimp only
      have d1 : decide ((971 : Int) + ((k + 1 : Nat) : Int) > 971) = true := decide_eq_true (by omega)
      have e1 : shlV .u64 (m : Int) 1 = ((m * 2 : Nat) : Int) := by
        have := u_shl m 1
        rw [Nat.pow_one, Nat.mod_eq_of_lt h3] at this
        exact this
      have e2 : IntKind.i64.wrap (971 + ((k + 1 : Nat) : Int) - 1) = 971 + (k : Int) := by rw [i_in (by omega)]; omega
      rw [d1, cond_true, e1, e2]
    unfold runL
    rw [st]
    dsimp only
    rw [l17_run hi lo more k n (m * 2) (by omega) (by omega) (by rw [← e0]; exact h2), e0]

theorem l20_run (hi lo : Int) (more : Bool) (m : Int) : runL (lanternref01_Near.L20.step M0) 60 (m, hi, lo, 971, more) = some (m, hi, lo, 971, more) := rfl

theorem near_tail {greater : Bool} {m E p : Nat} {hi lo : Int} {more : Bool} (hm : m ≤ 2 * B) (hE : E ≤ 20000) (hp : V p = m * 2 ^ E) :
    nearT M0 greater (m : Int) ⟨hi, lo, (E : Int) - 1074, more⟩ = (if greater then min p I else min p (I - 1)) ∧ nearTok M0 (m : Int) ⟨hi, lo, (E : Int) - 1074, more⟩ = true := by
  have hB := B_val
  have hB2 := B_eq
  have hI := I_eq
  have h6 := hm64
  unfold nearT nearTok
  by_cases h0 : m = 0
  · subst h0
    rw [Nat.zero_mul] at hp
    have := V_eqz.1 hp
    subst this
    rw [show ((((0 : Nat) : Nat) : Int) == 0) = true from rfl, cond_true, cond_true, Nat.zero_min, Nat.zero_min]
    exact ⟨by simp, rfl⟩
  · have d0 : ((m : Int) == 0) = false := by rw [beq_eq_false_iff_ne]; omega
    have hmm : m64 ≤ m64 * m64 := Nat.le_mul_of_pos_left _ (by omega)
    have hlen : lanternref01_Length M0 (⟨0, (m : Int), 0, false⟩ : LWord) = (blen m : Nat) := by
      have := length_lw (N := m) (by omega) 0 false
      rw [lw_small (by omega)] at this
      exact this
    have hb : blen m ≤ 54 := blen_le.2 (by omega)
    have hb1 : 1 ≤ blen m := lt_blen.2 (by omega)
    -- is it too great?
    have hbig : blen m + E ≥ 2099 ↔ I ≤ p := by
      obtain ⟨y, hy⟩ : ∃ y : Nat, y = 2098 := ⟨_, rfl⟩
      rw [← V_le_iff, V_I_pow hy, hp, ← lt_blen, blen_mul h0]
      omega
    rw [d0, cond_false, cond_false, hlen, i_in (n := ((blen m : Nat) : Int) - 1) (by omega)]
    dsimp only
    rw [i_in (n := ((blen m : Nat) : Int) - 1 + ((E : Int) - 1074)) (by omega)]
    by_cases h1 : I ≤ p
    · have d1 : decide (((blen m : Nat) : Int) - 1 + ((E : Int) - 1074) > 1023) = true := decide_eq_true (by have := hbig.2 h1; omega)
      rw [d1, cond_true, cond_true, Nat.min_eq_right h1, Nat.min_eq_right (by omega)]
      refine ⟨?_, rfl⟩
      cases greater
      · rw [cond_false, if_neg (by simp)]
        show (9218868437227405311 : Nat) = _
        omega
      · rw [cond_true, if_pos rfl]
        show (9218868437227405312 : Nat) = _
        omega
    · have hn : blen m + E < 2099 := by
        rcases Nat.lt_or_ge (blen m + E) 2099 with h | h
        · exact h
        · exact absurd (hbig.1 h) h1
      have d1 : decide (((blen m : Nat) : Int) - 1 + ((E : Int) - 1074) > 1023) = false := decide_eq_false (by omega)
      have d2 : decide ((E : Int) - 1074 ≥ -1074) = true := decide_eq_true (by omega)
      have hmin : (if greater = true then min p I else min p (I - 1)) = p := by
        rw [Nat.min_eq_left (by omega), Nat.min_eq_left (by omega)]
        simp
      rw [d1, cond_false, cond_false, d2, cond_true, cond_true, hmin]
      by_cases h2 : E ≤ 2045
      · have d3 : decide ((E : Int) - 1074 ≤ 971) = true := decide_eq_true (by omega)
        obtain ⟨q1, q2⟩ := near_mul hm (by omega) hp (by omega)
        rw [d3, cond_true, cond_true, q1, q2]
        exact ⟨rfl, rfl⟩
      · have d3 : decide ((E : Int) - 1074 ≤ 971) = false := decide_eq_false (by omega)
        obtain ⟨k, hk⟩ : ∃ k : Nat, E = k + 2045 := ⟨E - 2045, by omega⟩
        have hb3 : blen (m * 2 ^ k) ≤ 53 := by rw [blen_mul h0]; omega
        have h4 : m * 2 ^ k < 2 ^ 53 := blen_le.1 hb3
        have hrun := l17_run hi lo more k 60 m (by omega) (by omega) (by omega)
        rw [show (971 : Int) + (k : Int) = (E : Int) - 1074 by omega] at hrun
        have l1 : lanternref01_Near.L17 M0 (m : Int) hi lo ((E : Int) - 1074) more = (((m * 2 ^ k : Nat) : Int), hi, lo, 971, more) := by
          unfold lanternref01_Near.L17
          rw [hrun]; rfl
        have l2 : lanternref01_Near.L17.ok M0 (m : Int) hi lo ((E : Int) - 1074) more = true := by
          unfold lanternref01_Near.L17.ok
          rw [hrun]; rfl
        have l3 : lanternref01_Near.L20 M0 ((m * 2 ^ k : Nat) : Int) hi lo 971 more = (((m * 2 ^ k : Nat) : Int), hi, lo, 971, more) := by
          unfold lanternref01_Near.L20
          rw [l20_run]; rfl
        have l4 : lanternref01_Near.L20.ok M0 ((m * 2 ^ k : Nat) : Int) hi lo 971 more = true := by
          unfold lanternref01_Near.L20.ok
          rw [l20_run]; rfl
        obtain ⟨q1, q2⟩ := near_mul (m := m * 2 ^ k) (E := 2045) (p := p) (by omega) (by omega) (by rw [hp, hk, Nat.pow_add, Nat.mul_assoc]) (by omega)
        have e1 : (((2045 : Nat) : Int)) - 1074 = 971 := rfl
        rw [e1] at q1 q2
        rw [d3, cond_false, cond_false]
        rw [l1, l2]
        dsimp only
        rw [l3, l4]
        rw [q1, q2]
        exact ⟨rfl, rfl⟩

/-! ### To -/
theorem zeroed_F {s : Int} (h : pl s) : lanternref01_Zeroed M0 (F s) = F s := by
  unfold lanternref01_Zeroed
  have h2 : M0.eq (F s) 0 = decide (s = 0) := eq_F (t := 0) h ⟨by have := I_eq; omega, by omega⟩
  rw [h2]
  by_cases h3 : s = 0
  · subst h3
    rw [decide_eq_true rfl]; rfl
  · rw [decide_eq_false h3]; rfl

theorem to_of_near {w : LWord} {neg down : Bool} {q : Nat} (hq : q ≤ I) (h : lanternref01_Near M0 w (neg == down) = q) (hok : lanternref01_Near.ok M0 w (neg == down) = true) :
    lanternref01_To M0 w neg down = F (sg neg q) ∧ lanternref01_To.ok M0 w neg down = true := by
  unfold lanternref01_To lanternref01_To.ok
  dsimp only
  rw [h, hok]
  refine ⟨?_, rfl⟩
  cases neg
  · exact (F_nat q).symm
  · rw [cond_true, ← F_nat q, neg_F (pl_nat hq), zeroed_F ⟨by omega, by omega⟩]; rfl

theorem near_down {N : Nat} (hN : N < m64 * m64) {e : Int} (he : -5000 < e ∧ e < 5000) (more greater : Bool) (z : Int) (hz : z = max ((blen N : Int) - 53) (-1074 - e)) :
    lanternref01_Near M0 (lw N e more) greater = (let x7 := lanternref01_Down M0 (lw N e more) z
      cond x7.more (nearT M0 greater (cond greater (IntKind.u64.wrap (x7.lo + 1)) x7.lo) x7) (nearT M0 greater (cond false (IntKind.u64.wrap (x7.lo + 1)) x7.lo) x7)) ∧
    lanternref01_Near.ok M0 (lw N e more) greater = (let x7 := lanternref01_Down M0 (lw N e more) z
      cond (lanternref01_Down.ok M0 (lw N e more) z) (cond x7.more (nearTok M0 (cond greater (IntKind.u64.wrap (x7.lo + 1)) x7.lo) x7) (nearTok M0 (cond false (IntKind.u64.wrap (x7.lo + 1)) x7.lo) x7)) false) := by
  have hL : blen N ≤ 128 := blen_le.2 (by rw [m64_eq, ← Nat.pow_add] at hN; exact hN)
  have hx : cond (decide ((IntKind.i64.wrap ((-1074) - (lw N e more).e)) > IntKind.i64.wrap ((lanternref01_Length M0 (lw N e more)) - 53))) (IntKind.i64.wrap ((-1074) - (lw N e more).e)) (IntKind.i64.wrap ((lanternref01_Length M0 (lw N e more)) - 53)) = z := by
    rw [length_lw hN, show (lw N e more).e = e from rfl, i_in (n := -1074 - e) (by omega), i_in (n := (blen N : Int) - 53) (by omega), hz]
    by_cases h : -1074 - e > (blen N : Int) - 53
    · rw [decide_eq_true h, cond_true]; omega
    · rw [decide_eq_false h, cond_false]; omega
  rw [near_eq, nearok_eq]
  dsimp only
  rw [hx]
  exact ⟨rfl, rfl⟩

theorem to_lw {neg more down : Bool} {N : Nat} (hN : N < m64 * m64) {e : Int} (he : -5000 < e ∧ e < 5000) (hmore : more = true → 53 < blen N ∨ e < -1074) :
    lanternref01_To M0 (lw N e more) neg down = round_exact_to M0 (ex neg N e more) down ∧ lanternref01_To.ok M0 (lw N e more) neg down = true := by
  have hB := B_val
  have hB2 := B_eq
  have hI := I_eq
  have h6 := hm64
  have hL : blen N ≤ 128 := blen_le.2 (by rw [m64_eq, ← Nat.pow_add] at hN; exact hN)
  obtain ⟨s1, s2⟩ := to_steps (neg := neg) (more := more) (down := down) hN he
  have fin1 : ∀ p : Nat, fin (neg == down) neg (min p I) = F (sg neg (if (neg == down) = true then min p I else min p (I - 1))) := by
    intro p
    rw [fin_eq (Nat.min_le_right _ _)]
    congr 2
    cases (neg == down)
    · simp only [Bool.false_eq_true, if_false]; omega
    · simp
  have qle : ∀ p : Nat, (if (neg == down) = true then min p I else min p (I - 1)) ≤ I := by
    intro p
    split <;> omega
  -- how the two come together
  have tog : ∀ (m E p : Nat), m ≤ 2 * B → E ≤ 20000 → V p = m * 2 ^ E →
      round_exact_to M0 (ex neg N e more) down = fin (neg == down) neg (math_Ldexp M0 (M0.ofInt (m : Int)) ((E : Int) - 1074)) →
      lanternref01_Near M0 (lw N e more) (neg == down) = (if (neg == down) = true then min p I else min p (I - 1)) → lanternref01_Near.ok M0 (lw N e more) (neg == down) = true →
      lanternref01_To M0 (lw N e more) neg down = round_exact_to M0 (ex neg N e more) down ∧ lanternref01_To.ok M0 (lw N e more) neg down = true := by
    intro m E p hm hE hp h1 h2 h3
    obtain ⟨t1, t2⟩ := to_of_near (qle p) h2 h3
    have hld : math_Ldexp M0 (M0.ofInt (m : Int)) ((E : Int) - 1074) = (min p I : Nat) := by
      by_cases h0 : m = 0
      · subst h0
        rw [Nat.zero_mul] at hp
        rw [V_eqz.1 hp, Nat.zero_min]
        exact (ldexp_zero _).1
      · exact (ldexp_nat h0 hm (by omega) hp).1
    rw [t1, h1, hld, fin1]
    exact ⟨rfl, t2⟩
  obtain ⟨n1, n2⟩ := near_down hN he more (neg == down) _ rfl
  by_cases hc : max ((blen N : Int) - 53) (-1074 - e) ≤ 0
  · have hm0 : more = false := by
      cases more
      · rfl
      · have := hmore rfl; omega
    subst hm0
    have hlt : N < 2 ^ 53 := blen_le.1 (by omega)
    obtain ⟨E, hE⟩ : ∃ E : Nat, e = (E : Int) - 1074 := ⟨(e + 1074).toNat, by omega⟩
    obtain ⟨p, hp⟩ := rung_of (show N ≤ 2 * B by omega) E
    obtain ⟨u1, _⟩ := s2 hc rfl
    obtain ⟨d1, d2⟩ := down_neg (lw N e false) hc
    rw [d1] at n1 n2
    rw [d2] at n2
    dsimp only at n1 n2
    rw [show (lw N e false).more = false from rfl, cond_false, cond_false] at n1 n2
    rw [lw_small (show N < m64 by omega)] at n1 n2
    dsimp only at n1 n2
    rw [hE] at u1 n1 n2 ⊢
    have hs := lw_small (show N < m64 by omega) ((E : Int) - 1074) false
    rw [← hs] at n1 n2
    obtain ⟨k1, k2⟩ := near_tail (greater := (neg == down)) (hi := 0) (lo := (N : Int)) (more := false) (show N ≤ 2 * B by omega) (show E ≤ 20000 by omega) hp
    subst hE
    refine tog N E p (by omega) (by omega) hp u1 ?_ ?_
    · rw [n1, hs, k1]
    · rw [n2, hs]
      exact k2
  · obtain ⟨n, hn⟩ : ∃ n : Nat, (n : Int) = max ((blen N : Int) - 53) (-1074 - e) := ⟨(max ((blen N : Int) - 53) (-1074 - e)).toNat, by omega⟩
    obtain ⟨u1, _⟩ := s1 n (by omega) hn
    rw [← hn] at n1 n2
    obtain ⟨d1, d2⟩ := down_lw hN (show 0 < n by omega) (by omega) e (by omega) more
    have h1 : N < 2 ^ (n + 53) := blen_le.1 (by omega)
    have h2 : N / 2 ^ n < 2 ^ 53 := Nat.div_lt_of_lt_mul (by rw [← Nat.pow_add]; exact h1)
    rw [d1] at n1 n2
    rw [d2] at n2
    rw [lw_small (show N / 2 ^ n < m64 by omega)] at n1 n2
    generalize hb : (more || decide (N % 2 ^ n ≠ 0)) = b at n1 n2 u1
    obtain ⟨E, hE⟩ : ∃ E : Nat, e + n = (E : Int) - 1074 := ⟨(e + n + 1074).toNat, by omega⟩
    rw [hE] at n1 n2 u1
    dsimp only at n1 n2
    have h3 : N / 2 ^ n + 1 < m64 := by omega
    have hw : IntKind.u64.wrap (((N / 2 ^ n : Nat) : Int) + 1) = ((N / 2 ^ n + 1 : Nat) : Int) := u_wrap_lt h3
    rw [hw] at n1 n2
    have hm2 : N / 2 ^ n + (b && (neg == down)).toNat ≤ 2 * B := by
      have : (b && (neg == down)).toNat ≤ 1 := by cases (b && (neg == down)) <;> decide
      omega
    obtain ⟨p, hp⟩ := rung_of hm2 E
    obtain ⟨k1, k2⟩ := near_tail (greater := (neg == down)) (hi := 0) (lo := ((N / 2 ^ n : Nat) : Int)) (more := b) hm2 (show E ≤ 20000 by omega) hp
    refine tog _ E p hm2 (by omega) hp u1 ?_ ?_
    · refine n1.trans (Eq.trans ?_ k1)
      generalize (neg == down) = g
      cases b <;> cases g <;> rfl
    · refine n2.trans (Eq.trans ?_ k2)
      rw [cond_true]
      generalize (neg == down) = g
      cases b <;> cases g <;> rfl

end Go.Lan

/- The document's products and sums are the program's. -/
namespace Go.Lan

attribute [local irreducible] B

theorem times_eq (x y : Int) : lanternref01_Times M0 x y = bits_Mul64 M0 x y := by
  unfold lanternref01_Times bits_Mul64
  dsimp only
  rw [Int.add_comm (M0.and .u64 _ 4294967295)]

theorem times_nat {x y : Nat} (hx : x < m64) (hy : y < m64) : lanternref01_Times M0 (x : Int) (y : Int) = (((x * y / m64 : Nat) : Int), ((x * y % m64 : Nat) : Int)) := by
  rw [times_eq, mul64 hx hy]

theorem partok_F {s : Int} (h : pl s) : lanternref01_Part.ok M0 (F s) = true := by
  rw [F_wd]
  exact partok_wd (pl_abs h)

theorem mul01 {a b : Int} (ha : nm a) (hb : nm b) (down : Bool) : lanternref01_Mul M0 (F a) (F b) down = round_Mul M0 (F a) (F b) down ∧ lanternref01_Mul.ok M0 (F a) (F b) down = true := by
  have hm := hm64
  have hB := B_val
  have na := refNumber ha.pl
  have nb := refNumber hb.pl
  rw [decide_eq_true ha] at na
  rw [decide_eq_true hb] at nb
  have htwo := two_F ha.pl hb.pl
  rw [decide_eq_true ⟨ha, hb⟩] at htwo
  unfold lanternref01_Mul round_Mul lanternref01_Mul.ok
  rw [na, nb, htwo, partok_F ha.pl, partok_F hb.pl, F_wd a, F_wd b]
  obtain ⟨m1, e1, p1, s1, v1, _, l1, _, k1⟩ := part_wd (neg := decide (a < 0)) (nm_abs ha)
  obtain ⟨m2, e2, p2, s2, v2, _, l2, _, k2⟩ := part_wd (neg := decide (b < 0)) (nm_abs hb)
  generalize decide (a < 0) = n1 at *
  generalize decide (b < 0) = n2 at *
  dsimp only
  rw [p1, p2, s1, s2]
  have hN : m1 * m2 < m64 * m64 := Nat.mul_lt_mul_of_lt_of_lt (by omega) (by omega)
  have hx1 : (lw m1 ((e1 : Int) - 1074) false).lo = (m1 : Int) := by rw [lw_small (by omega)]
  have hx2 : (lw m2 ((e2 : Int) - 1074) false).lo = (m2 : Int) := by rw [lw_small (by omega)]
  have hy1 : (ex n1 m1 ((e1 : Int) - 1074) false).lo = (m1 : Int) := by rw [ex_small _ (by omega)]
  have hy2 : (ex n2 m2 ((e2 : Int) - 1074) false).lo = (m2 : Int) := by rw [ex_small _ (by omega)]
  dsimp only
  rw [hx1, hx2, hy1, hy2, times_nat (by omega) (by omega), mul64 (by omega) (by omega), show (ex n1 m1 ((e1 : Int) - 1074) false).neg = n1 from rfl, show (ex n2 m2 ((e2 : Int) - 1074) false).neg = n2 from rfl,
    show (ex n1 m1 ((e1 : Int) - 1074) false).e = (e1 : Int) - 1074 from rfl, show (ex n2 m2 ((e2 : Int) - 1074) false).e = (e2 : Int) - 1074 from rfl,
    show (lw m1 ((e1 : Int) - 1074) false).e = (e1 : Int) - 1074 from rfl, show (lw m2 ((e2 : Int) - 1074) false).e = (e2 : Int) - 1074 from rfl]
  obtain ⟨t1, t2⟩ := to_lw (neg := !(n1 == n2)) (more := false) (down := down) hN (e := IntKind.i64.wrap (((e1 : Int) - 1074) + ((e2 : Int) - 1074))) (by rw [i_in (by omega)]; omega) (by simp)
  have h1 : (⟨((m1 * m2 / m64 : Nat) : Int), ((m1 * m2 % m64 : Nat) : Int), IntKind.i64.wrap (((e1 : Int) - 1074) + ((e2 : Int) - 1074)), false⟩ : LWord) = lw (m1 * m2) (IntKind.i64.wrap (((e1 : Int) - 1074) + ((e2 : Int) - 1074))) false := rfl
  simp only [Bool.not_true, cond_false, cond_true]
  rw [h1, t1, t2]
  exact ⟨rfl, rfl⟩

/-! ### Sums -/
theorem isD_self {a : Int} (h : nm a) : isD a (fun z => z ≤ Wi a) :=
  ⟨Int.le_of_lt h.1, h.2, .inr (Int.le_refl _), fun t ht _ h2 => by rw [Wi_le] at h2; omega⟩
theorem isU_self {a : Int} (h : nm a) : isU a (fun z => Wi a ≤ z) :=
  ⟨h.1, Int.le_of_lt h.2, .inr (Int.le_refl _), fun t _ ht h2 => by rw [Wi_le] at h2; omega⟩
theorem round_add_zero {a : Int} (ha : nm a) (down : Bool) : round_Add M0 (F a) (F 0) down = (F a, 0) ∧ round_Add M0 (F 0) (F a) down = (F a, 0) := by
  cases down
  · obtain ⟨s, h1, _, h2⟩ := addU ha nm_zero
    obtain ⟨t, h3, _, h4⟩ := addU nm_zero ha
    rw [Wi_zero, Int.add_zero] at h2
    rw [Wi_zero, Int.zero_add] at h4
    rw [h1, h3, h2.eq (isU_self ha), h4.eq (isU_self ha)]
    exact ⟨rfl, rfl⟩
  · obtain ⟨s, h1, _, h2⟩ := addD ha nm_zero
    obtain ⟨t, h3, _, h4⟩ := addD nm_zero ha
    rw [Wi_zero, Int.add_zero] at h2
    rw [Wi_zero, Int.zero_add] at h4
    rw [h1, h3, h2.eq (isD_self ha), h4.eq (isD_self ha)]
    exact ⟨rfl, rfl⟩

theorem add_hi {A C : Nat} (h : A + C < m64 * m64) :
    (A + C) % m64 = (A % m64 + C % m64) % m64 ∧ ((A % m64 + C % m64) % m64 < A % m64 ↔ m64 ≤ A % m64 + C % m64) ∧ (A + C) / m64 = A / m64 + C / m64 + (A % m64 + C % m64) / m64 ∧ (A % m64 + C % m64) / m64 ≤ 1 ∧ A / m64 + C / m64 < m64 ∧ A / m64 + C / m64 + (A % m64 + C % m64) / m64 < m64 := by
  have hm := hm64
  have h1 : (A + C) / m64 < m64 := Nat.div_lt_of_lt_mul h
  rw [hm] at *
  omega

theorem plus_lw {A C : Nat} (h : A + C < m64 * m64) (e e2 : Int) (mb : Bool) : lanternref01_plus M0 (lw A e false) (lw C e2 mb) = lw (A + C) e mb := by
  have hm := hm64
  obtain ⟨h1, h2, h3, h4, h5, h6⟩ := add_hi h
  have hA : A % m64 < m64 := Nat.mod_lt _ (by omega)
  have hC : C % m64 < m64 := Nat.mod_lt _ (by omega)
  unfold lanternref01_plus lw
  dsimp only
  rw [h1, h3]
  generalize A % m64 = a at *
  generalize C % m64 = c at *
  generalize A / m64 = a' at *
  generalize C / m64 = c' at *
  simp only [← Int.natCast_add]
  have w1 := u_wrap (a + c)
  have w2 := u_wrap_lt (n := a' + c') h5
  simp only [w1, w2]
  have h7 : decide ((((a + c) % m64 : Nat) : Int) < (a : Int)) = decide (m64 ≤ a + c) := by
    rw [Bool.eq_iff_iff, decide_eq_true_eq, decide_eq_true_eq, ← h2]
    omega
  rw [h7, cond_false]
  by_cases h8 : m64 ≤ a + c
  · have h9 : (a + c) / m64 = 1 := by
      have : 1 ≤ (a + c) / m64 := (Nat.le_div_iff_mul_le (by omega)).2 (by omega)
      omega
    rw [decide_eq_true h8, cond_true, h9]
    have h11 : a' + c' + 1 < m64 := by omega
    have h10 : IntKind.u64.wrap (((a' + c' : Nat) : Int) + 1) = ((a' + c' + 1 : Nat) : Int) := u_wrap_lt h11
    rw [h10]
  · rw [decide_eq_false h8, cond_false, Nat.div_eq_of_lt (by omega), Nat.add_zero]

theorem sub_hi {A C : Nat} (hA : A < m64 * m64) (h : C ≤ A) :
    (A - C) % m64 = (A % m64 + m64 - C % m64) % m64 ∧ C / m64 ≤ A / m64 ∧ (A - C) / m64 + C / m64 + (if A % m64 < C % m64 then 1 else 0) = A / m64 ∧ A / m64 < m64 := by
  have hm := hm64
  have h1 : A / m64 < m64 := Nat.div_lt_of_lt_mul hA
  rw [hm] at *
  refine ⟨by omega, by omega, ?_, by omega⟩
  split <;> omega

theorem u_wrap_sub {a b : Nat} (hb : b < m64) : IntKind.u64.wrap ((a : Int) - (b : Int)) = (((a + m64 - b) % m64 : Nat) : Int) := by
  have hm := hm64
  rw [← u_wrap (a + m64 - b)]
  show (((a : Int) - (b : Int)) % 18446744073709551616 : Int) = (((a + m64 - b : Nat) : Int)) % 18446744073709551616
  rw [hm]
  omega

theorem minus_lw {A C : Nat} (hA : A < m64 * m64) (h : C ≤ A) (e e2 : Int) (ma mb : Bool) : lanternref01_minus M0 (lw A e ma) (lw C e2 mb) = lw (A - C) e false := by
  have hm := hm64
  obtain ⟨h1, h2, h3, h4⟩ := sub_hi hA h
  have ha : A % m64 < m64 := Nat.mod_lt _ (by omega)
  have hc : C % m64 < m64 := Nat.mod_lt _ (by omega)
  unfold lanternref01_minus lw
  dsimp only
  rw [h1]
  generalize (A - C) / m64 = q at *
  generalize A % m64 = a at *
  generalize C % m64 = c at *
  generalize A / m64 = a' at *
  generalize C / m64 = c' at *
  rw [u_wrap_sub hc, u_wrap_sub (a := a') (b := c') (by omega)]
  have h5 : (a' + m64 - c') % m64 = a' - c' := by rw [hm] at *; omega
  rw [h5]
  by_cases h6 : a < c
  · rw [if_pos h6] at h3
    rw [decide_eq_true (by omega), cond_true]
    have h7 : IntKind.u64.wrap (((a' - c' : Nat) : Int) - 1) = ((q : Nat) : Int) := by
      rw [show ((a' - c' : Nat) : Int) - 1 = ((q : Nat) : Int) by omega]
      exact u_wrap_lt (by omega)
    rw [h7]
  · rw [if_neg h6] at h3
    rw [decide_eq_false (by omega), cond_false]
    have h7 : a' - c' = q := by omega
    rw [h7]

theorem below_lw {A C : Nat} (e e2 : Int) (ma mb : Bool) : lanternref01_below M0 (lw A e ma) (lw C e2 mb) = decide (A < C) := by
  have hm := hm64
  have hA := Nat.div_add_mod A m64
  have hC := Nat.div_add_mod C m64
  have ha : A % m64 < m64 := Nat.mod_lt _ (by omega)
  have hc : C % m64 < m64 := Nat.mod_lt _ (by omega)
  unfold lanternref01_below lw
  dsimp only
  generalize A % m64 = a at *
  generalize C % m64 = c at *
  generalize A / m64 = a' at *
  generalize C / m64 = c' at *
  rw [hm] at *
  by_cases h1 : a' < c'
  · rw [decide_eq_true (by omega), cond_true, decide_eq_true (by omega)]
  · rw [decide_eq_false (by omega), cond_false]
    by_cases h2 : a' = c'
    · have : ((a' : Int) == (c' : Int)) = true := by rw [beq_iff_eq]; omega
      rw [this, cond_true, Bool.eq_iff_iff, decide_eq_true_eq, decide_eq_true_eq]
      omega
    · have : ((a' : Int) == (c' : Int)) = false := by rw [beq_eq_false_iff_ne]; omega
      rw [this, cond_false, decide_eq_false (by omega)]

theorem to_tells {x : LExact} {S : Int} (h : Tells x S) (down : Bool) : lanternref01_To M0 (ofX x) x.neg down = round_exact_to M0 x down ∧ lanternref01_To.ok M0 (ofX x) x.neg down = true := by
  obtain ⟨neg, N, g, d, e, more, rfl, hN, hg, he, _, _, _, _, hl⟩ := h.of
  have := to_lw (neg := neg) (more := more) (down := down) hN (e := e) (by omega) fun h => .inl (hl h)
  exact this

/-! The program's text of the sum. -/
def tail01 (M : Prims) (down p q : Bool) (a b : LWord) : Nat × Int :=
  cond (p == q)
    ((lanternref01_To M (lanternref01_plus M a b) p down), 0)
    (cond (!b.more)
      (cond (lanternref01_below M a b)
        ((lanternref01_To M (lanternref01_minus M b a) q down), 0)
        (let x28 := lanternref01_minus M a b
         cond b.more
           (let x29 := lanternref01_minus M x28 (⟨0, 1, 0, false⟩ : LWord)
            ((lanternref01_To M (⟨x29.hi, x29.lo, a.e, true⟩ : LWord) p down), 0))
           ((lanternref01_To M x28 p down), 0)))
      (let x32 := lanternref01_minus M a b
       cond b.more
         (let x33 := lanternref01_minus M x32 (⟨0, 1, 0, false⟩ : LWord)
          ((lanternref01_To M (⟨x33.hi, x33.lo, a.e, true⟩ : LWord) p down), 0))
         ((lanternref01_To M x32 p down), 0)))
def side01 (M : Prims) (down p q : Bool) (a b : LWord) : Nat × Int :=
  let x17 := lanternref01_Up M a (IntKind.i64.wrap (126 - (lanternref01_Length M a)))
  cond (decide (b.e ≥ x17.e))
    (let x20 := lanternref01_Up M b (IntKind.i64.wrap (b.e - x17.e))
     tail01 M down p q x17 x20)
    (let x37 := lanternref01_Down M b (IntKind.i64.wrap (x17.e - b.e))
     tail01 M down p q x17 x37)
theorem add01_eq (M : Prims) (x y : Nat) (down : Bool) : lanternref01_Add M x y down =
    cond (!(lanternref01_Number M x)) (0, 10) (cond (!(lanternref01_Number M y)) (0, 10) (cond (M.eq y 0) ((lanternref01_Zeroed M x), 0) (cond (M.eq x 0) (y, 0)
      (let x8 := lanternref01_Part M x
       let x9 := lanternref01_Part M y
       cond (decide ((IntKind.i64.wrap ((lanternref01_Length M x8.1) + x8.1.e)) < (IntKind.i64.wrap ((lanternref01_Length M x9.1) + x9.1.e))))
         (side01 M down x9.2 x8.2 x9.1 x8.1) (side01 M down x8.2 x9.2 x8.1 x9.1))))) := rfl


def tail01ok (M : Prims) (down p q : Bool) (a b : LWord) : Bool :=
  cond (p == q)
    (cond (lanternref01_To.ok M (lanternref01_plus M a b) p down) true false)
    (cond (!b.more)
      (cond (lanternref01_below M a b)
        (cond (lanternref01_To.ok M (lanternref01_minus M b a) q down) true false)
        (let x28 := lanternref01_minus M a b
         cond b.more
           (let x29 := lanternref01_minus M x28 (⟨0, 1, 0, false⟩ : LWord)
            cond (lanternref01_To.ok M (⟨x29.hi, x29.lo, a.e, true⟩ : LWord) p down) true false)
           (cond (lanternref01_To.ok M x28 p down) true false)))
      (let x32 := lanternref01_minus M a b
       cond b.more
         (let x33 := lanternref01_minus M x32 (⟨0, 1, 0, false⟩ : LWord)
          cond (lanternref01_To.ok M (⟨x33.hi, x33.lo, a.e, true⟩ : LWord) p down) true false)
         (cond (lanternref01_To.ok M x32 p down) true false)))
def side01ok (M : Prims) (down p q : Bool) (a b : LWord) : Bool :=
  let x16 := IntKind.i64.wrap (126 - (lanternref01_Length M a))
  let x17 := lanternref01_Up M a x16
  cond (lanternref01_Up.ok M a x16)
    (cond (decide (b.e ≥ x17.e))
      (let x19 := IntKind.i64.wrap (b.e - x17.e)
       let x20 := lanternref01_Up M b x19
       cond (lanternref01_Up.ok M b x19) (tail01ok M down p q x17 x20) false)
      (let x36 := IntKind.i64.wrap (x17.e - b.e)
       let x37 := lanternref01_Down M b x36
       cond (lanternref01_Down.ok M b x36) (tail01ok M down p q x17 x37) false))
    false
theorem add01ok_eq (M : Prims) (x y : Nat) (down : Bool) : lanternref01_Add.ok M x y down =
    cond (!(lanternref01_Number M x)) true (cond (!(lanternref01_Number M y)) true (cond (M.eq y 0) true (cond (M.eq x 0) true
      (let x8 := lanternref01_Part M x
       cond (lanternref01_Part.ok M x)
         (let x9 := lanternref01_Part M y
          cond (lanternref01_Part.ok M y)
            (cond (decide ((IntKind.i64.wrap ((lanternref01_Length M x8.1) + x8.1.e)) < (IntKind.i64.wrap ((lanternref01_Length M x9.1) + x9.1.e))))
              (side01ok M down x9.2 x8.2 x9.1 x8.1) (side01ok M down x8.2 x9.2 x8.1 x9.1)) false) false)))) := rfl

theorem one_lw : (⟨0, 1, 0, false⟩ : LWord) = lw 1 0 false := (lw_small (m := 1) (by decide) 0 false).symm

/-- The last steps of a sum are those of the program's. -/
theorem tail_merge {p q mb : Bool} {A C : Nat} (hA : A < m64 * m64) (hC : C < m64 * m64) (hAC : A + C < m64 * m64) (hmA : mb = true → C + 1 ≤ A) {e : Int} {S : Int} (down : Bool) (h : Tells (mergeX (ex p A e false) (ex q C e mb)) S) :
    tail01 M0 down p q (lw A e false) (lw C e mb) = (round_exact_to M0 (mergeX (ex p A e false) (ex q C e mb)) down, 0) ∧ tail01ok M0 down p q (lw A e false) (lw C e mb) = true := by
  obtain ⟨t1, t2⟩ := to_tells h down
  unfold tail01 tail01ok
  rw [show (lw C e mb).more = mb from rfl, show (lw A e false).e = e from rfl]
  by_cases hpq : p = q
  · subst hpq
    obtain ⟨a1, _⟩ := add_ex (n := p) (mb := mb) hAC e e
    rw [a1] at t1 t2 ⊢
    have hpp : (p == p) = true := by simp
    rw [hpp, cond_true, cond_true, plus_lw hAC]
    have t1' : lanternref01_To M0 (lw (A + C) e mb) p down = _ := t1
    have t2' : lanternref01_To.ok M0 (lw (A + C) e mb) p down = true := t2
    rw [t1', t2']
    exact ⟨rfl, rfl⟩
  · have hpq2 : (p == q) = false := by simp [hpq]
    have hq : q = !p := by cases p <;> cases q <;> simp_all
    obtain ⟨a1, a2, _⟩ := diff_ex (mb := mb) hpq hA hC e e
    rw [hpq2, cond_false, cond_false]
    cases mb
    · simp only [Bool.not_false, cond_true, cond_false, Bool.toNat_false, Nat.add_zero, Nat.sub_zero] at *
      rw [below_lw]
      by_cases hlt : A < C
      · rw [a2 trivial hlt] at t1 t2 ⊢
        rw [decide_eq_true hlt, cond_true, cond_true, minus_lw hC (Nat.le_of_lt hlt), hq]
        have t1' : lanternref01_To M0 (lw (C - A) e false) (!p) down = _ := t1
        have t2' : lanternref01_To.ok M0 (lw (C - A) e false) (!p) down = true := t2
        rw [t1', t2']
        exact ⟨rfl, rfl⟩
      · rw [a1 (by omega)] at t1 t2 ⊢
        rw [decide_eq_false hlt, cond_false, cond_false, minus_lw hA (by omega)]
        have t1' : lanternref01_To M0 (lw (A - C) e false) p down = _ := t1
        have t2' : lanternref01_To.ok M0 (lw (A - C) e false) p down = true := t2
        rw [t1', t2']
        exact ⟨rfl, rfl⟩
    · have hCA := hmA rfl
      simp only [Bool.not_true, cond_true, cond_false, Bool.toNat_true] at *
      rw [a1 hCA] at t1 t2 ⊢
      rw [minus_lw hA (by omega), one_lw, minus_lw (A := A - C) (C := 1) (by omega) (by omega)]
      have t1' : lanternref01_To M0 (lw (A - C - 1) e true) p down = _ := t1
      have t2' : lanternref01_To.ok M0 (lw (A - C - 1) e true) p down = true := t2
      have hs : (⟨(lw (A - C - 1) e false).hi, (lw (A - C - 1) e false).lo, e, true⟩ : LWord) = lw (A - C - 1) e true := rfl
      rw [hs, t1', t2']
      exact ⟨rfl, rfl⟩

theorem side_tells {na nb : Bool} {A C x y : Nat} (hA0 : A ≠ 0) (hA : A < 2 * B) (hC : C < 2 * B) (hx : x < 2100) (hy : y < 2100) (hlen : y + blen C ≤ x + blen A) (down : Bool) :
    ∃ X, Tells X (sg na (A * 2 ^ x) + sg nb (C * 2 ^ y)) ∧ side01 M0 down na nb (lw A ((x : Int) - 1074) false) (lw C ((y : Int) - 1074) false) = (round_exact_to M0 X down, 0) ∧ side01ok M0 down na nb (lw A ((x : Int) - 1074) false) (lw C ((y : Int) - 1074) false) = true := by
  have hB := B_eq
  have hm := hm64
  have hm4 : m64 * m64 = 2 ^ 128 := by rw [m64_eq, ← Nat.pow_add]
  have hbA : blen A ≤ 53 := blen_le.2 (by omega)
  have hbC : blen C ≤ 53 := blen_le.2 (by omega)
  have hbA0 : 1 ≤ blen A := lt_blen.2 (by omega)
  have hmm : m64 ≤ m64 * m64 := Nat.le_mul_of_pos_left _ (by omega)
  have hAm : A < m64 * m64 := by omega
  have hCm : C < m64 * m64 := by omega
  obtain ⟨sh, hsh⟩ : ∃ sh : Nat, sh + blen A = 126 := ⟨126 - blen A, by omega⟩
  have l1 := length_lw hAm ((x : Int) - 1074) false
  have hn : IntKind.i64.wrap (126 - lanternref01_Length M0 (lw A ((x : Int) - 1074) false)) = (sh : Int) := by
    rw [l1, i_in (by omega)]; omega
  have hA2l : blen (A * 2 ^ sh) = 126 := by rw [blen_mul hA0]; omega
  have hA2a : 2 ^ 125 ≤ A * 2 ^ sh := lt_blen.1 (by omega)
  have hA2b : A * 2 ^ sh < 2 ^ 126 := blen_le.1 (by omega)
  have p1 : (2 : Nat) ^ 128 = 2 ^ 126 * 4 := by decide
  have p3 : (2 : Nat) ^ 53 + 1 ≤ 2 ^ 125 := by decide
  obtain ⟨q1, q2⟩ := up_lw (N := A) (n := sh) (by rw [hm4]; omega) (by omega) ((x : Int) - 1074) (by omega) false
  obtain ⟨g, hg⟩ : ∃ g : Nat, (g : Int) = (x : Int) - 1074 - sh + 1200 := ⟨x + 126 - sh, by omega⟩
  have hAg : A * 2 ^ x * 2 ^ 126 = A * 2 ^ sh * 2 ^ g := by rw [Nat.mul_assoc, ← Nat.pow_add, Nat.mul_assoc, ← Nat.pow_add, show x + 126 = sh + g by omega]
  have scaled : ∀ (u v : Nat) (w : Nat), w = v * 2 ^ 126 → (sg na u + sg nb v) * ((2 ^ 126 : Nat) : Int) = sg na (u * 2 ^ 126) + sg nb w := by
    intro u v w hw
    rw [hw, sg_mul, sg_mul, Int.add_mul]
  unfold side01 side01ok
  dsimp only
  rw [hn, q1, q2, show (lw (A * 2 ^ sh) ((x : Int) - 1074 - sh) false).e = (x : Int) - 1074 - sh from rfl, show (lw C ((y : Int) - 1074) false).e = (y : Int) - 1074 from rfl]
  by_cases hgt : (y : Int) - 1074 ≥ (x : Int) - 1074 - sh
  · have d1 : decide ((y : Int) - 1074 ≥ (x : Int) - 1074 - sh) = true := decide_eq_true hgt
    rw [d1, cond_true, cond_true, cond_true]
    obtain ⟨k, hk⟩ : ∃ k : Nat, (k : Int) = (y : Int) - 1074 - ((x : Int) - 1074 - sh) := ⟨y + sh - x, by omega⟩
    rw [i_in (n := (y : Int) - 1074 - ((x : Int) - 1074 - sh)) (by omega), ← hk]
    have hC2 : C * 2 ^ k < 2 ^ 126 := by
      by_cases h0 : C = 0
      · rw [h0, Nat.zero_mul]; exact Nat.two_pow_pos _
      · exact blen_le.1 (by rw [blen_mul h0]; omega)
    obtain ⟨r1, r2⟩ := up_lw (N := C) (n := k) (by rw [hm4]; omega) (by omega) ((y : Int) - 1074) (by omega) false
    rw [r1, r2, cond_true]
    have hCg : C * 2 ^ k * 2 ^ g + 0 = C * 2 ^ y * 2 ^ 126 := by rw [Nat.add_zero, Nat.mul_assoc, ← Nat.pow_add, Nat.mul_assoc, ← Nat.pow_add, show k + g = y + 126 by omega]
    obtain ⟨u1, _⟩ := merge_tells (na := na) (nb := nb) (mb := false) (d0 := 0) (e2 := (x : Int) - 1074 - sh) hA2a hA2b hC2 hg (by omega) (Nat.two_pow_pos g) (by simp) (by simp) (S := sg na (A * 2 ^ x) + sg nb (C * 2 ^ y)) (by rw [scaled _ _ _ hCg, hAg])
    have he2 : (y : Int) - 1074 - k = (x : Int) - 1074 - sh := by omega
    rw [he2]
    obtain ⟨w1, w2⟩ := tail_merge (by rw [hm4]; omega) (by rw [hm4]; omega) (by rw [hm4]; omega) (by simp) down u1
    exact ⟨_, u1, w1, w2⟩
  · have d1 : decide ((y : Int) - 1074 ≥ (x : Int) - 1074 - sh) = false := decide_eq_false hgt
    rw [d1, cond_true, cond_false, cond_false]
    obtain ⟨k, hk⟩ : ∃ k : Nat, (k : Int) = (x : Int) - 1074 - sh - ((y : Int) - 1074) := ⟨x - sh - y, by omega⟩
    rw [i_in (n := (x : Int) - 1074 - sh - ((y : Int) - 1074)) (by omega), ← hk]
    have hC3 : C / 2 ^ k ≤ C := Nat.div_le_self _ _
    obtain ⟨r1, r2⟩ := down_lw hCm (show 0 < k by omega) (by omega) ((y : Int) - 1074) (by omega) false
    rw [Bool.false_or] at r1
    rw [r1, r2, cond_true]
    have hpk := Nat.two_pow_pos k
    have hmod := Nat.mod_lt C hpk
    have hkg : k ≤ g := by omega
    have hpg : 2 ^ g = 2 ^ k * 2 ^ (g - k) := by rw [← Nat.pow_add, show k + (g - k) = g by omega]
    have hp2 := Nat.two_pow_pos (g - k)
    have hCg : C / 2 ^ k * 2 ^ g + C % 2 ^ k * 2 ^ (g - k) = C * 2 ^ y * 2 ^ 126 := by
      rw [hpg, ← Nat.mul_assoc, ← Nat.add_mul, Nat.mul_assoc C, ← Nat.pow_add, show y + 126 = g - k by omega, Nat.mul_comm (C / 2 ^ k), Nat.div_add_mod]
    have p2 : (2 : Nat) ^ 53 < 2 ^ 126 := by decide
    obtain ⟨u1, _⟩ := merge_tells (na := na) (nb := nb) (mb := decide (C % 2 ^ k ≠ 0)) (C := C / 2 ^ k) (e2 := (x : Int) - 1074 - sh) (d0 := C % 2 ^ k * 2 ^ (g - k)) hA2a hA2b (by omega) hg (by omega)
      (by rw [hpg]; exact Nat.mul_lt_mul_of_pos_right hmod hp2)
      (by
        rw [decide_eq_true_eq]
        constructor
        · intro h; exact Nat.mul_pos (by omega) hp2
        · intro h h0; rw [h0, Nat.zero_mul] at h; omega) (fun _ => by omega) (S := sg na (A * 2 ^ x) + sg nb (C * 2 ^ y)) (by rw [scaled _ _ _ hCg, hAg])
    have he2 : (y : Int) - 1074 + k = (x : Int) - 1074 - sh := by omega
    rw [he2]
    obtain ⟨w1, w2⟩ := tail_merge (by rw [hm4]; omega) (by rw [hm4]; omega) (by rw [hm4]; omega) (fun _ => by omega) down u1
    exact ⟨_, u1, w1, w2⟩

theorem add01 {a b : Int} (ha : nm a) (hb : nm b) (down : Bool) : lanternref01_Add M0 (F a) (F b) down = round_Add M0 (F a) (F b) down ∧ lanternref01_Add.ok M0 (F a) (F b) down = true := by
  have hm := hm64
  have hB := B_val
  have na := refNumber ha.pl
  have nb := refNumber hb.pl
  rw [decide_eq_true ha] at na
  rw [decide_eq_true hb] at nb
  have ea := eq_F ha.pl pl_zero
  have eb := eq_F hb.pl pl_zero
  rw [F_zero] at ea eb
  rw [add01_eq, add01ok_eq, na, nb, ea, eb]
  by_cases hb0 : b = 0
  · subst hb0
    rw [decide_eq_true rfl, zeroed_F ha.pl, (round_add_zero ha down).1]
    exact ⟨rfl, rfl⟩
  · by_cases ha0 : a = 0
    · subst ha0
      rw [decide_eq_false hb0, decide_eq_true rfl, (round_add_zero hb down).2]
      exact ⟨rfl, rfl⟩
    · rw [decide_eq_false hb0, decide_eq_false ha0, partok_F ha.pl, partok_F hb.pl]
      simp only [Bool.not_true, cond_false, cond_true]
      -- the program's sum, by its place
      have fin : ∀ X, Tells X (Wi a + Wi b) → round_Add M0 (F a) (F b) down = (round_exact_to M0 X down, 0) := by
        intro X hX
        obtain ⟨⟨s, x1, _, x3⟩, ⟨t, y1, _, y3⟩⟩ := tells_to hX
        cases down
        · obtain ⟨u, z1, _, z3⟩ := addU ha hb
          rw [z1, y1, z3.eq y3]
        · obtain ⟨u, z1, _, z3⟩ := addD ha hb
          rw [z1, x1, z3.eq x3]
      have hWa : Wi a = sg (decide (a < 0)) (V a.natAbs) := rfl
      have hWb : Wi b = sg (decide (b < 0)) (V b.natAbs) := rfl
      obtain ⟨m1, e1, p1, s1, v1, _, l1, _, k1⟩ := part_wd (neg := decide (a < 0)) (nm_abs ha)
      obtain ⟨m2, e2, p2, s2, v2, _, l2, _, k2⟩ := part_wd (neg := decide (b < 0)) (nm_abs hb)
      have z1 : m1 ≠ 0 := by
        intro e
        rw [e, Nat.zero_mul] at v1
        have := V_eqz.1 v1
        omega
      have z2 : m2 ≠ 0 := by
        intro e
        rw [e, Nat.zero_mul] at v2
        have := V_eqz.1 v2
        omega
      rw [v1] at hWa
      rw [v2] at hWb
      rw [F_wd a, F_wd b] at fin ⊢
      generalize decide (a < 0) = n1 at *
      generalize decide (b < 0) = n2 at *
      rw [p1, p2]
      dsimp only
      have hmm : m64 ≤ m64 * m64 := Nat.le_mul_of_pos_left _ (by omega)
      have b1 : blen m1 ≤ 53 := blen_le.2 (by have := B_eq; omega)
      have b2 : blen m2 ≤ 53 := blen_le.2 (by have := B_eq; omega)
      rw [length_lw (N := m1) (by omega), length_lw (N := m2) (by omega), show (lw m1 ((e1 : Int) - 1074) false).e = (e1 : Int) - 1074 from rfl, show (lw m2 ((e2 : Int) - 1074) false).e = (e2 : Int) - 1074 from rfl,
        i_in (n := ((blen m1 : Nat) : Int) + ((e1 : Int) - 1074)) (by omega), i_in (n := ((blen m2 : Nat) : Int) + ((e2 : Int) - 1074)) (by omega)]
      by_cases hlt : ((blen m1 : Nat) : Int) + ((e1 : Int) - 1074) < ((blen m2 : Nat) : Int) + ((e2 : Int) - 1074)
      · rw [decide_eq_true hlt, cond_true, cond_true]
        obtain ⟨X, x1, x2, x3⟩ := side_tells (na := n2) (nb := n1) z2 l2 l1 (by omega) (by omega) (by omega) down (x := e2) (y := e1)
        rw [x2, x3, fin X (by rw [hWa, hWb, Int.add_comm]; exact x1)]
        exact ⟨rfl, rfl⟩
      · rw [decide_eq_false hlt, cond_false, cond_false]
        obtain ⟨X, x1, x2, x3⟩ := side_tells (na := n1) (nb := n2) z1 l1 l2 (by omega) (by omega) (by omega) down (x := e1) (y := e2)
        rw [x2, x3, fin X (by rw [hWa, hWb]; exact x1)]
        exact ⟨rfl, rfl⟩

end Go.Lan
