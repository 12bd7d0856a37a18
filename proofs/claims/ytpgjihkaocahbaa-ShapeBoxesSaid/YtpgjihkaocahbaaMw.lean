/- Spans within spans: quotients, squares, roots, questions. -/
import Derived.Test.YtpgjihkaocahbaaMv
namespace Go.Lan

attribute [local irreducible] B

/-! ### Quotients -/
/-- From a quotient above nothing: corners. -/
theorem qcorner_lo {l m k x y : Int} (hm : 0 < m) (h1 : l ≤ x) (h3 : m ≤ y) (h4 : y ≤ k) : (∀ z, z * m ≤ l * C → z * y ≤ x * C) ∨ (∀ z, z * k ≤ l * C → z * y ≤ x * C) := by
  have hC := C_pos
  have hx : l * C ≤ x * C := Int.mul_le_mul_of_nonneg_right h1 (Int.le_of_lt hC)
  rcases Int.le_total 0 l with hl | hl
  · right
    intro z hz
    have h0 : 0 ≤ l * C := Int.mul_nonneg hl (Int.le_of_lt hC)
    rcases Int.le_total 0 z with h | h
    · exact Int.le_trans (Int.mul_le_mul_of_nonneg_left h4 h) (Int.le_trans hz hx)
    · have : z * y ≤ 0 := Int.mul_nonpos_of_nonpos_of_nonneg h (by omega)
      omega
  · left
    intro z hz
    have h0 : l * C ≤ 0 := Int.mul_nonpos_of_nonpos_of_nonneg hl (Int.le_of_lt hC)
    rcases Int.lt_or_le 0 z with h | h
    · have := Int.mul_pos h hm
      omega
    · exact Int.le_trans (Int.mul_le_mul_of_nonpos_left h h3) (Int.le_trans hz hx)
theorem qcorner_hi {h m k x y : Int} (hm : 0 < m) (h1 : x ≤ h) (h3 : m ≤ y) (h4 : y ≤ k) : (∀ z, h * C ≤ z * m → x * C ≤ z * y) ∨ (∀ z, h * C ≤ z * k → x * C ≤ z * y) := by
  have := qcorner_lo (l := -h) (x := -x) hm (by omega) h3 h4
  simp only [Int.neg_mul] at this
  rcases this with h5 | h5
  · left
    intro z hz
    have := h5 (-z) (by rw [Int.neg_mul]; omega)
    rw [Int.neg_mul] at this
    omega
  · right
    intro z hz
    have := h5 (-z) (by rw [Int.neg_mul]; omega)
    rw [Int.neg_mul] at this
    omega

theorem QD_neg (x y z : Int) (hy : y ≠ 0) : QD (-x) (-y) z ↔ QD x y z := by
  unfold QD
  by_cases h : 0 < y
  · rw [if_pos h, if_neg (by omega), Int.mul_neg, Int.neg_mul]; omega
  · rw [if_neg h, if_pos (by omega), Int.mul_neg, Int.neg_mul]; omega
theorem QU_neg (x y z : Int) (hy : y ≠ 0) : QU (-x) (-y) z ↔ QU x y z := by
  unfold QU
  by_cases h : 0 < y
  · rw [if_pos h, if_neg (by omega), Int.mul_neg, Int.neg_mul]; omega
  · rw [if_neg h, if_pos (by omega), Int.mul_neg, Int.neg_mul]; omega
theorem QDU {x y a b : Int} (hy : y ≠ 0) (h : QD x y a) (k : QU x y b) : a ≤ b := by
  unfold QD at h
  unfold QU at k
  by_cases h0 : 0 < y
  · rw [if_pos h0] at h k
    exact Int.le_of_mul_le_mul_right (Int.le_trans h k) h0
  · rw [if_neg h0] at h k
    have : a * -y ≤ b * -y := by rw [Int.mul_neg, Int.mul_neg]; omega
    exact Int.le_of_mul_le_mul_right this (by omega)

theorem quot_lo {l h m k x y : Int} (h0 : 0 < m ∨ k < 0) (h1 : l ≤ x) (h2 : x ≤ h) (h3 : m ≤ y) (h4 : y ≤ k) :
    (∀ z, QD l m z → QD x y z) ∨ (∀ z, QD l k z → QD x y z) ∨ (∀ z, QD h m z → QD x y z) ∨ (∀ z, QD h k z → QD x y z) := by
  rcases h0 with h0 | h0
  · have e : ∀ a b z, 0 < b → (QD a b z ↔ z * b ≤ a * C) := fun a b z hb => by unfold QD; rw [if_pos hb]
    rcases qcorner_lo h0 h1 h3 h4 with q | q
    · left
      intro z hz
      rw [e _ _ _ (by omega)] at hz ⊢
      exact q z hz
    · right; left
      intro z hz
      rw [e _ _ _ (by omega)] at hz ⊢
      exact q z hz
  · have e : ∀ a b z, b < 0 → (QD a b z ↔ z * -b ≤ -a * C) := fun a b z hb => by unfold QD; rw [if_neg (by omega), Int.mul_neg, Int.neg_mul]; omega
    rcases qcorner_lo (l := -h) (m := -k) (k := -m) (x := -x) (y := -y) (by omega) (by omega) (by omega) (by omega) with q | q
    · right; right; right
      intro z hz
      rw [e _ _ _ (by omega)] at hz ⊢
      exact q z hz
    · right; right; left
      intro z hz
      rw [e _ _ _ (by omega)] at hz ⊢
      exact q z hz
theorem quot_hi {l h m k x y : Int} (h0 : 0 < m ∨ k < 0) (h1 : l ≤ x) (h2 : x ≤ h) (h3 : m ≤ y) (h4 : y ≤ k) :
    (∀ z, QU l m z → QU x y z) ∨ (∀ z, QU l k z → QU x y z) ∨ (∀ z, QU h m z → QU x y z) ∨ (∀ z, QU h k z → QU x y z) := by
  rcases h0 with h0 | h0
  · have e : ∀ a b z, 0 < b → (QU a b z ↔ a * C ≤ z * b) := fun a b z hb => by unfold QU; rw [if_pos hb]
    rcases qcorner_hi h0 h2 h3 h4 with q | q
    · right; right; left
      intro z hz
      rw [e _ _ _ (by omega)] at hz ⊢
      exact q z hz
    · right; right; right
      intro z hz
      rw [e _ _ _ (by omega)] at hz ⊢
      exact q z hz
  · have e : ∀ a b z, b < 0 → (QU a b z ↔ -a * C ≤ z * -b) := fun a b z hb => by unfold QU; rw [if_neg (by omega), Int.mul_neg, Int.neg_mul]; omega
    rcases qcorner_hi (h := -l) (m := -k) (k := -m) (x := -x) (y := -y) (by omega) (by omega) (by omega) (by omega) with q | q
    · right; left
      intro z hz
      rw [e _ _ _ (by omega)] at hz ⊢
      exact q z hz
    · left
      intro z hz
      rw [e _ _ _ (by omega)] at hz ⊢
      exact q z hz

/-- May it be divided by? -/
def dvs (l h m k : Int) : Prop := (0 < m ∨ k < 0) ∧ (nm l ∧ nm h) ∧ (nm m ∧ nm k)
instance (l h m k : Int) : Decidable (dvs l h m k) := inferInstanceAs (Decidable (_ ∧ _))

/-- All of a quotient. -/
theorem div_sv {a b : LSpan} {l h m k : Int} (sa : SV a l h) (sb : SV b m k) : ∃ s t, SV (span_Div M0 a b) s t ∧ span_Div.ok M0 a b = true ∧
    (¬ dvs l h m k → s = -(I : Int) ∧ t = I) ∧ (dvs l h m k → Four QD QU l h m k s t) := by
  have w1 := sa.wide
  have w2 := sb.wide
  have e1 : M0.le b.lo 0 = decide (m ≤ 0) := by rw [sb.lo]; exact F_le0 sb.pl
  have e2 : M0.ge b.hi 0 = decide (0 ≤ k) := by rw [sb.hi]; exact F_ge0 sb.ph
  have hle := sb.le
  by_cases c3 : nm l ∧ nm h
  · by_cases c4 : nm m ∧ nm k
    · by_cases c0 : 0 < m ∨ k < 0
      · have hm0 : m ≠ 0 := by omega
        have hk0 : k ≠ 0 := by omega
        obtain ⟨d1, x1, o1, q1⟩ := divD c3.1 c4.1 hm0
        obtain ⟨d2, x2, o2, q2⟩ := divD c3.1 c4.2 hk0
        obtain ⟨d3, x3, o3, q3⟩ := divD c3.2 c4.1 hm0
        obtain ⟨d4, x4, o4, q4⟩ := divD c3.2 c4.2 hk0
        obtain ⟨u1, f1, p1, r1⟩ := divU c3.1 c4.1 hm0
        obtain ⟨u2, f2, p2, r2⟩ := divU c3.1 c4.2 hk0
        obtain ⟨u3, f3, p3, r3⟩ := divU c3.2 c4.1 hm0
        obtain ⟨u4, f4, p4, r4⟩ := divU c3.2 c4.2 hk0
        have four : Four QD QU l h m k (min (min (min d1 d2) d3) d4) (max (max (max u1 u2) u3) u4) := ⟨⟨d1, d2, d3, d4, q1, q2, q3, q4, rfl⟩, ⟨u1, u2, u3, u4, r1, r2, r3, r4, rfl⟩⟩
        obtain ⟨b1, b2, b3, b4⟩ := four.bounds
        have hWm : Wi m ≠ 0 := by
          have := @Wi_pos m
          have := @Wi_neg_iff m
          omega
        have hval : span_Div M0 a b = ⟨F (min (min (min d1 d2) d3) d4), F (max (max (max u1 u2) u3) u4)⟩ := by
          have g1 := min4_F q1 q2 q3 q4
          have g2 := max4_F r1 r2 r3 r4
          have ww1 : decide (¬ (nm l ∧ nm h)) = false := decide_eq_false (by simp [c3])
          have ww2 : decide (¬ (nm m ∧ nm k)) = false := decide_eq_false (by simp [c4])
          rw [ww1] at w1
          rw [ww2] at w2
          have body : (⟨(M0.min (M0.min (M0.min (M0.min (math_Inf M0 1) (round_Div M0 a.lo b.lo true).1) (round_Div M0 a.lo b.hi true).1) (round_Div M0 a.hi b.lo true).1) (round_Div M0 a.hi b.hi true).1), (M0.max (M0.max (M0.max (M0.max (math_Inf M0 (-1)) (round_Div M0 a.lo b.lo false).1) (round_Div M0 a.lo b.hi false).1) (round_Div M0 a.hi b.lo false).1) (round_Div M0 a.hi b.hi false).1)⟩ : LSpan) = ⟨F (min (min (min d1 d2) d3) d4), F (max (max (max u1 u2) u3) u4)⟩ := by
            rw [sa.lo, sa.hi, sb.lo, sb.hi, x1, x2, x3, x4, f1, f2, f3, f4, g1, g2]
          unfold span_Div
          rw [e1, e2, w1.1, w2.1, body]
          by_cases hm : m ≤ 0
          · rw [decide_eq_true hm, decide_eq_false (by omega)]; rfl
          · rw [decide_eq_false hm]; rfl
        refine ⟨_, _, ⟨by rw [hval], by rw [hval], four.le fun x y => QDU hWm, b1, b2, b3, b4⟩, ?_, fun k => absurd ⟨c0, c3, c4⟩ k, fun _ => four⟩
        unfold span_Div.ok
        have ww1 : decide (¬ (nm l ∧ nm h)) = false := decide_eq_false (by simp [c3])
        have ww2 : decide (¬ (nm m ∧ nm k)) = false := decide_eq_false (by simp [c4])
        rw [ww1] at w1
        rw [ww2] at w2
        rw [e1, e2, w1.1, w2.1, w1.2, w2.2]
        rw [sa.lo, sa.hi, sb.lo, sb.hi, o1, o2, o3, o4, p1, p2, p3, p4]
        cases decide (m ≤ 0) <;> cases decide (0 ≤ k) <;> rfl
      · have hval : span_Div M0 a b = span_All M0 := by
          unfold span_Div
          rw [e1, e2, decide_eq_true (by omega), decide_eq_true (by omega)]; rfl
        refine ⟨_, _, by rw [hval]; exact all_sv, ?_, fun _ => ⟨rfl, rfl⟩, fun d => absurd d.1 c0⟩
        unfold span_Div.ok
        rw [e1, e2, decide_eq_true (by omega), decide_eq_true (by omega)]; rfl
    · have ww2 : decide (¬ (nm m ∧ nm k)) = true := decide_eq_true c4
      rw [ww2] at w2
      have hval : span_Div M0 a b = span_All M0 := by
        unfold span_Div
        rw [w2.1]
        cases M0.le b.lo 0 <;> cases M0.ge b.hi 0 <;> cases span_Wide M0 a <;> rfl
      refine ⟨_, _, by rw [hval]; exact all_sv, ?_, fun _ => ⟨rfl, rfl⟩, fun d => absurd d.2.2 c4⟩
      unfold span_Div.ok
      rw [w2.1, w2.2, w1.2]
      cases M0.le b.lo 0 <;> cases M0.ge b.hi 0 <;> cases span_Wide M0 a <;> rfl
  · have ww1 : decide (¬ (nm l ∧ nm h)) = true := decide_eq_true c3
    rw [ww1] at w1
    have hval : span_Div M0 a b = span_All M0 := by
      unfold span_Div
      rw [w1.1]
      cases M0.le b.lo 0 <;> cases M0.ge b.hi 0 <;> rfl
    refine ⟨_, _, by rw [hval]; exact all_sv, ?_, fun _ => ⟨rfl, rfl⟩, fun d => absurd d.2.1 c3⟩
    unfold span_Div.ok
    rw [w1.1, w1.2]
    cases M0.le b.lo 0 <;> cases M0.ge b.hi 0 <;> rfl
theorem div_ok {a b : LSpan} (ha : SVs a) (hb : SVs b) : span_Div.ok M0 a b = true := by
  obtain ⟨l, h, sa⟩ := ha
  obtain ⟨m, k, sb⟩ := hb
  obtain ⟨s, t, _, h1, _⟩ := div_sv sa sb
  exact h1

theorem div_ni {a b a' b' : LSpan} (ha : NI a a') (hb : NI b b') : NI (span_Div M0 a b) (span_Div M0 a' b') := by
  obtain ⟨l, h, l', h', sa, sa', a1, a2⟩ := ha
  obtain ⟨m, k, m', k', sb, sb', b1, b2⟩ := hb
  obtain ⟨s, t, q, _, w, f⟩ := div_sv sa sb
  obtain ⟨s', t', q', _, w', f'⟩ := div_sv sa' sb'
  refine ⟨s, t, s', t', q, q', ?_⟩
  have e1 := sa.le; have e2 := sb.le
  by_cases n' : dvs l' h' m' k'
  · have n : dvs l h m k := by
      obtain ⟨x0, ⟨x1, x2⟩, x3, x4⟩ := n'
      unfold dvs nm at *
      omega
    have i1 := Wi_le.2 a1
    have i2 := Wi_le.2 a2
    have i3 := Wi_le.2 b1
    have i4 := Wi_le.2 b2
    have i5 := Wi_le.2 e1
    have i6 := Wi_le.2 e2
    have h0 : 0 < Wi m' ∨ Wi k' < 0 := by rw [Wi_pos, Wi_neg_iff]; exact n'.1
    exact (f n).mono (f' n') (fun x y hx hy => quot_lo h0 (by omega) (by omega) (by omega) (by omega)) (fun x y hx hy => quot_hi h0 (by omega) (by omega) (by omega) (by omega))
  · obtain ⟨rfl, rfl⟩ := w' n'
    exact ⟨q.b1, q.b4⟩

/-! ### Squares -/
theorem sqr_hi_lo {a : LSpan} {l h s t : Int} (sa : SV a l h) (q : SV (span_Mul M0 a a) s t) (n : nm l ∧ nm h)
    (z : (l = 0 ∧ h = 0) ∨ (l = 0 ∧ h = 0) → s = 0 ∧ t = 0) (f : ¬ ((l = 0 ∧ h = 0) ∨ (l = 0 ∧ h = 0)) → (nm l ∧ nm h) ∧ (nm l ∧ nm h) → Four MD MU l h l h s t) : 0 ≤ t ∧ (0 < l ∨ h < 0 → 0 ≤ s) := by
  by_cases c : (l = 0 ∧ h = 0) ∨ (l = 0 ∧ h = 0)
  · obtain ⟨rfl, rfl⟩ := z c; omega
  · have F' := f c ⟨n, n⟩
    have hI := I_pos
    have hle := sa.le
    have hW := Wi_le.2 hle
    have zd : isD 0 (fun z => z * C ≤ 0) := ⟨by omega, by omega, .inr (by rw [Wi_zero, Int.zero_mul]; omega), fun t ht _ hP => by
      have := Int.mul_pos (Wi_pos.2 ht) C_pos
      omega⟩
    have zu : isU 0 (fun z => 0 ≤ z * C) := ⟨by omega, by omega, .inr (by rw [Wi_zero, Int.zero_mul]; omega), fun t _ ht hP => by
      have := Int.mul_neg_of_neg_of_pos (Wi_neg_iff.2 ht) C_pos
      omega⟩
    constructor
    · refine F'.upper zu (.inl fun z hz => Int.le_trans ?_ hz)
      rcases Int.le_total 0 (Wi l) with h1 | h1
      · exact Int.mul_nonneg h1 h1
      · exact Int.mul_nonneg_of_nonpos_of_nonpos h1 h1
    · intro hs
      obtain ⟨d1, d2, d3, d4, a1, a2, a3, a4, rfl⟩ := F'.d
      have key : ∀ {x y d : Int}, (0 ≤ Wi x ∧ 0 ≤ Wi y ∨ Wi x ≤ 0 ∧ Wi y ≤ 0) → isD d (MD (Wi x) (Wi y)) → 0 ≤ d := fun {x y d} hxy hd => by
        refine zd.mono hd fun z hz => Int.le_trans hz ?_
        rcases hxy with h1 | h1
        · exact Int.mul_nonneg h1.1 h1.2
        · exact Int.mul_nonneg_of_nonpos_of_nonpos h1.1 h1.2
      have sgn : (0 ≤ Wi l ∧ 0 ≤ Wi h) ∨ (Wi l ≤ 0 ∧ Wi h ≤ 0) := by
        rcases hs with h1 | h1
        · have := Wi_pos.2 h1; omega
        · have := Wi_neg_iff.2 h1; omega
      have := key (by omega) a1
      have := key (by omega) a2
      have := key (by omega) a3
      have := key (by omega) a4
      omega

theorem sqr_sv {a : LSpan} {l h : Int} (sa : SV a l h) : ∃ s t, SV (span_Sqr M0 a) s t ∧ span_Sqr.ok M0 a = true ∧ 0 ≤ s ∧ (¬ (nm l ∧ nm h) → s = 0 ∧ t = I) ∧
    (nm l ∧ nm h → ∃ s0, SV (span_Mul M0 a a) s0 t ∧ (l ≤ 0 ∧ 0 ≤ h → s = 0) ∧ (¬ (l ≤ 0 ∧ 0 ≤ h) → s = s0)) := by
  have w := sa.wide
  have hI := I_pos
  by_cases n : nm l ∧ nm h
  · obtain ⟨s, t, q, o, z, _, f⟩ := mul_sv sa sa
    obtain ⟨h1, h2⟩ := sqr_hi_lo sa q n z f
    have w1 : decide (¬ (nm l ∧ nm h)) = false := decide_eq_false (by simp [n])
    rw [w1] at w
    have e1 : M0.le a.lo 0 = decide (l ≤ 0) := by rw [sa.lo]; exact F_le0 sa.pl
    have e2 : M0.ge a.hi 0 = decide (0 ≤ h) := by rw [sa.hi]; exact F_ge0 sa.ph
    have ok : span_Sqr.ok M0 a = true := by unfold span_Sqr.ok; rw [w.1, w.2, o]; rfl
    by_cases c : l ≤ 0 ∧ 0 ≤ h
    · have hval : span_Sqr M0 a = ⟨0, (span_Mul M0 a a).hi⟩ := by
        unfold span_Sqr
        rw [w.1, e1, e2, decide_eq_true c.1, decide_eq_true c.2]; rfl
      refine ⟨0, t, ⟨by rw [hval, F_zero], by rw [hval]; exact q.hi, h1, by omega, by omega, q.b3, q.b4⟩, ok, by omega, fun k => absurd n k, fun _ => ⟨s, q, fun _ => rfl, fun k => absurd c k⟩⟩
    · have hval : span_Sqr M0 a = span_Mul M0 a a := by
        unfold span_Sqr
        rw [w.1, e1, e2]
        by_cases c1 : l ≤ 0
        · rw [decide_eq_true c1, decide_eq_false (by omega)]; rfl
        · rw [decide_eq_false c1]; rfl
      refine ⟨s, t, by rw [hval]; exact q, ok, h2 (by omega), fun k => absurd n k, fun _ => ⟨s, q, fun k => absurd k c, fun _ => rfl⟩⟩
  · have w1 : decide (¬ (nm l ∧ nm h)) = true := decide_eq_true n
    rw [w1] at w
    have hval : span_Sqr M0 a = ⟨0, math_Inf M0 1⟩ := by unfold span_Sqr; rw [w.1]; rfl
    refine ⟨0, I, ⟨by rw [hval, F_zero], by rw [hval, inf_hi], by omega, by omega, by omega, by omega, by omega⟩, by unfold span_Sqr.ok; rw [w.1, w.2]; rfl, by omega, fun _ => ⟨rfl, rfl⟩, fun k => absurd k n⟩
theorem sqr_ok {a : LSpan} (ha : SVs a) : span_Sqr.ok M0 a = true := by
  obtain ⟨l, h, sa⟩ := ha
  obtain ⟨s, t, _, h1, _⟩ := sqr_sv sa
  exact h1

theorem SV.uniq {a : LSpan} {l h m k : Int} (s : SV a l h) (t : SV a m k) : l = m ∧ h = k :=
  ⟨F_inj s.pl t.pl (s.lo.symm.trans t.lo), F_inj s.ph t.ph (s.hi.symm.trans t.hi)⟩

theorem sqr_ni {a a' : LSpan} (ha : NI a a') : NI (span_Sqr M0 a) (span_Sqr M0 a') := by
  have hm := mul_ni ha ha
  obtain ⟨l, h, l', h', sa, sa', a1, a2⟩ := ha
  obtain ⟨s, t, q, _, p, w, f⟩ := sqr_sv sa
  obtain ⟨s', t', q', _, p', w', f'⟩ := sqr_sv sa'
  refine ⟨s, t, s', t', q, q', ?_⟩
  have e1 := sa.le
  by_cases n' : nm l' ∧ nm h'
  · have n : nm l ∧ nm h := by
      obtain ⟨x1, x2⟩ := n'
      unfold nm at *
      omega
    obtain ⟨s0, q0, g1, g2⟩ := f n
    obtain ⟨s0', q0', g1', g2'⟩ := f' n'
    obtain ⟨x1, x2, x3, x4, y1, y2, y3, y4⟩ := hm
    obtain ⟨rfl, rfl⟩ := y1.uniq q0
    obtain ⟨rfl, rfl⟩ := y2.uniq q0'
    refine ⟨?_, y4⟩
    by_cases c' : l' ≤ 0 ∧ 0 ≤ h'
    · rw [g1' c']; exact p
    · rw [g2' c', g2 (by omega)]
      exact y3
  · obtain ⟨rfl, rfl⟩ := w' n'
    exact ⟨p, q.b4⟩

/-! ### Roots -/
theorem sqrt_sv {a : LSpan} {l h : Int} (sa : SV a l h) : ∃ s t, SV (span_Sqrt M0 a) s t ∧ span_Sqrt.ok M0 a = true ∧ (h < 0 ∨ ¬ (nm l ∧ nm h) → s = -(I : Int) ∧ t = I) ∧
    (0 ≤ h → nm l ∧ nm h → isD s (RD (Wi (max l 0))) ∧ isU t (RU (Wi h))) := by
  have w := sa.wide
  have e1 : M0.lt a.hi 0 = decide (h < 0) := by rw [sa.hi]; exact F_lt0 sa.ph
  by_cases c : h < 0
  · have hval : span_Sqrt M0 a = span_All M0 := by unfold span_Sqrt; rw [e1, decide_eq_true c]; rfl
    exact ⟨_, _, by rw [hval]; exact all_sv, by unfold span_Sqrt.ok; rw [e1, decide_eq_true c]; rfl, fun _ => ⟨rfl, rfl⟩, fun k => by omega⟩
  · by_cases n : nm l ∧ nm h
    · have w1 : decide (¬ (nm l ∧ nm h)) = false := decide_eq_false (by simp [n])
      rw [w1] at w
      have hmax : M0.max a.lo 0 = F (max l 0) := by rw [sa.lo]; exact F_max0 sa.pl
      have nmax : nm (max l 0) := by
        have := n.1
        have := nm_zero
        unfold nm at *
        omega
      obtain ⟨s, s1, s2, s3⟩ := sqrtD nmax (by omega)
      obtain ⟨t, t1, t2, t3⟩ := sqrtU n.2 (by omega)
      have hval : span_Sqrt M0 a = ⟨F s, F t⟩ := by
        unfold span_Sqrt
        rw [e1, decide_eq_false c, w.1, hmax, s1, sa.hi, t1]; rfl
      have hle := sa.le
      refine ⟨s, t, ⟨by rw [hval], by rw [hval], ?_, s3.lo, s3.hi, t3.lo, t3.hi⟩, ?_, fun k => k.elim (fun k => absurd k c) fun k => absurd n k, fun _ _ => ⟨s3, t3⟩⟩
      · refine isD_le_isU s3 t3 fun x y hx hy => ?_
        rcases Int.lt_or_le x 0 with h1 | h1
        · have := hy.1; omega
        · rcases hx with h2 | h2
          · omega
          · have h3 : Wi (max l 0) ≤ Wi h := Wi_le.2 (by omega)
            have h4 : Wi (max l 0) * C ≤ Wi h * C := Int.mul_le_mul_of_nonneg_right h3 (Int.le_of_lt C_pos)
            have h5 := Int.le_trans h2 (Int.le_trans h4 hy.2)
            rcases Int.lt_or_le y x with h6 | h6
            · exfalso
              have h7 : y * y ≤ y * x := Int.mul_le_mul_of_nonneg_left (Int.le_of_lt h6) hy.1
              have h8 : y * x < x * x := Int.mul_lt_mul_of_pos_right h6 (by have := hy.1; omega)
              omega
            · exact h6
      · unfold span_Sqrt.ok
        rw [e1, decide_eq_false c, w.1, w.2, hmax, s2, sa.hi, t2]; rfl
    · have w1 : decide (¬ (nm l ∧ nm h)) = true := decide_eq_true n
      rw [w1] at w
      have hval : span_Sqrt M0 a = span_All M0 := by unfold span_Sqrt; rw [e1, decide_eq_false c, w.1]; rfl
      exact ⟨_, _, by rw [hval]; exact all_sv, by unfold span_Sqrt.ok; rw [e1, decide_eq_false c, w.1, w.2]; rfl, fun _ => ⟨rfl, rfl⟩, fun _ k => absurd k n⟩
theorem sqrt_ok {a : LSpan} (ha : SVs a) : span_Sqrt.ok M0 a = true := by
  obtain ⟨l, h, sa⟩ := ha
  obtain ⟨s, t, _, h1, _⟩ := sqrt_sv sa
  exact h1

/-- The inner one's roots, if it has some. -/
theorem sqrt_ni {a a' : LSpan} (ha : NI a a') (h0 : M0.lt a.hi 0 = false) : NI (span_Sqrt M0 a) (span_Sqrt M0 a') := by
  obtain ⟨l, h, l', h', sa, sa', a1, a2⟩ := ha
  obtain ⟨s, t, q, _, w, f⟩ := sqrt_sv sa
  obtain ⟨s', t', q', _, w', f'⟩ := sqrt_sv sa'
  refine ⟨s, t, s', t', q, q', ?_⟩
  have h1 : 0 ≤ h := by
    rw [sa.hi, F_lt0 sa.ph] at h0
    have := of_decide_eq_false h0
    omega
  have e1 := sa.le
  by_cases n' : nm l' ∧ nm h'
  · have n : nm l ∧ nm h := by
      obtain ⟨x1, x2⟩ := n'
      unfold nm at *
      omega
    obtain ⟨d, u⟩ := f h1 n
    obtain ⟨d', u'⟩ := f' (by omega) n'
    have hC := Int.le_of_lt C_pos
    constructor
    · refine d'.mono d fun z hz => ?_
      rcases hz with hz | hz
      · exact .inl hz
      · refine .inr (Int.le_trans hz (Int.mul_le_mul_of_nonneg_right (Wi_le.2 (by omega)) hC))
    · exact u'.mono u fun z hz => ⟨hz.1, Int.le_trans (Int.mul_le_mul_of_nonneg_right (Wi_le.2 a2) hC) hz.2⟩
  · obtain ⟨rfl, rfl⟩ := w' (.inr n')
    exact ⟨q.b1, q.b4⟩

/-! ### Questions -/
theorem pos_sv {a : LSpan} {l h : Int} (s : SV a l h) : span_Positive M0 a = if 0 < l then 1 else if h ≤ 0 then 0 else 2 := by
  unfold span_Positive
  rw [s.lo, s.hi, F_gt0 s.pl, F_le0 s.ph]
  by_cases h1 : 0 < l
  · rw [decide_eq_true h1, if_pos h1]; rfl
  · rw [decide_eq_false h1, if_neg h1]
    by_cases h2 : h ≤ 0
    · rw [decide_eq_true h2, if_pos h2]; rfl
    · rw [decide_eq_false h2, if_neg h2]; rfl
theorem pos_ni {a a' : LSpan} (ha : NI a a') (hq : span_Positive M0 a' ≠ 2) : span_Positive M0 a = span_Positive M0 a' := by
  obtain ⟨l, h, l', h', sa, sa', a1, a2⟩ := ha
  rw [pos_sv sa'] at hq ⊢
  rw [pos_sv sa]
  have := sa.le
  by_cases c1 : 0 < l'
  · rw [if_pos c1, if_pos (by omega)]
  · rw [if_neg c1] at hq ⊢
    by_cases c2 : h' ≤ 0
    · rw [if_pos c2, if_neg (by omega), if_pos (by omega)]
    · rw [if_neg c2] at hq; exact absurd rfl hq
theorem less_sv {a b : LSpan} {l h m k : Int} (s : SV a l h) (t : SV b m k) : span_Less M0 a b = if h < m then 1 else if k ≤ l then 0 else 2 := by
  unfold span_Less
  rw [s.lo, s.hi, t.lo, t.hi, lt_F s.ph t.pl, ge_F s.pl t.ph]
  by_cases h1 : h < m
  · rw [decide_eq_true h1, if_pos h1]; rfl
  · rw [decide_eq_false h1, if_neg h1]
    by_cases h2 : k ≤ l
    · rw [decide_eq_true h2, if_pos h2]; rfl
    · rw [decide_eq_false h2, if_neg h2]; rfl
theorem least_sv {a : LSpan} {l h : Int} (s : SV a l h) : shape_atLeast M0 a = if h < 0 then 0 else if 0 ≤ l then 1 else 2 := by
  unfold shape_atLeast shape_opposite
  rw [less_sv s zero_sv]
  by_cases h1 : h < 0
  · rw [if_pos h1, if_pos h1]; rfl
  · rw [if_neg h1, if_neg h1]
    by_cases h2 : 0 ≤ l
    · rw [if_pos h2, if_pos h2]; rfl
    · rw [if_neg h2, if_neg h2]; rfl
theorem least_ni {a a' : LSpan} (ha : NI a a') (hq : shape_atLeast M0 a' ≠ 2) : shape_atLeast M0 a = shape_atLeast M0 a' := by
  obtain ⟨l, h, l', h', sa, sa', a1, a2⟩ := ha
  rw [least_sv sa'] at hq ⊢
  rw [least_sv sa]
  have := sa.le
  by_cases c1 : h' < 0
  · rw [if_pos c1, if_pos (by omega)]
  · rw [if_neg c1] at hq ⊢
    by_cases c2 : 0 ≤ l'
    · rw [if_pos c2, if_neg (by omega), if_pos (by omega)]
    · rw [if_neg c2] at hq; exact absurd rfl hq

end Go.Lan
