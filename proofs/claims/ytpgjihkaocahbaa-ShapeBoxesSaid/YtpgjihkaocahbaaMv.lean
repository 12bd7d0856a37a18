/- Spans, and spans within spans. -/
import Derived.Test.YtpgjihkaocahbaaMu
namespace Go.Lan

attribute [local irreducible] B

/-- A span from the place l to the place h. -/
structure SV (a : LSpan) (l h : Int) : Prop where
  lo : a.lo = F l
  hi : a.hi = F h
  le : l ≤ h
  b1 : -(I : Int) ≤ l
  b2 : l < I
  b3 : -(I : Int) < h
  b4 : h ≤ I

theorem SV.pl {a : LSpan} {l h : Int} (s : SV a l h) : pl l := ⟨s.b1, Int.le_of_lt s.b2⟩
theorem SV.ph {a : LSpan} {l h : Int} (s : SV a l h) : Go.Lan.pl h := ⟨Int.le_of_lt s.b3, s.b4⟩
theorem SV.eta {a : LSpan} {l h : Int} (s : SV a l h) : a = ⟨F l, F h⟩ := by
  cases a; cases s.lo; cases s.hi; rfl
theorem SV.nl {a : LSpan} {l h : Int} (s : SV a l h) : nm l ↔ l ≠ -(I : Int) := by
  have := s.b1; have := s.b2
  unfold nm; omega
theorem SV.nh {a : LSpan} {l h : Int} (s : SV a l h) : nm h ↔ h ≠ (I : Int) := by
  have := s.b3; have := s.b4
  unfold nm; omega
/-- Both ends are numbers. -/
theorem SV.wide {a : LSpan} {l h : Int} (s : SV a l h) : span_Wide M0 a = decide (¬ (nm l ∧ nm h)) ∧ span_Wide.ok M0 a = true := by
  have hI := I_pos
  unfold span_Wide span_Wide.ok
  rw [s.lo, s.hi, isInf_F s.pl, isInf_F s.ph, isInfok_F s.pl, isInfok_F s.ph]
  have h1 := s.nl
  have h2 := s.nh
  have e1 : (l = (I : Int) ∨ l = -(I : Int)) ↔ ¬ nm l := by have := s.b2; rw [h1]; omega
  have e2 : (h = (I : Int) ∨ h = -(I : Int)) ↔ ¬ nm h := by have := s.b3; rw [h2]; omega
  simp only [e1, e2]
  by_cases k1 : nm l <;> by_cases k2 : nm h <;> simp [k1, k2]

/-- Of two numbers that are ends. -/
theorem SV.mk' {a : LSpan} {l h : Int} (lo : a.lo = F l) (hi : a.hi = F h) (hl : nm l) (hh : nm h) (le : l ≤ h) : SV a l h := ⟨lo, hi, le, hl.pl.1, hl.2, hh.1, hh.pl.2⟩

theorem all_sv : SV (span_All M0) (-(I : Int)) I := by
  have := I_pos
  exact ⟨inf_lo, inf_hi, by omega, by omega, by omega, by omega, by omega⟩
theorem zero_sv : SV ⟨0, 0⟩ 0 0 := by
  have := I_pos
  exact ⟨F_zero.symm, F_zero.symm, by omega, by omega, by omega, by omega, by omega⟩

/-- a lies within b. -/
def NI (a b : LSpan) : Prop := ∃ l h m k, SV a l h ∧ SV b m k ∧ m ≤ l ∧ h ≤ k
def SVs (a : LSpan) : Prop := ∃ l h, SV a l h
theorem NI.left {a b : LSpan} (h : NI a b) : SVs a := by obtain ⟨l, h, m, k, h1, _⟩ := h; exact ⟨l, h, h1⟩
theorem NI.right {a b : LSpan} (h : NI a b) : SVs b := by obtain ⟨l, h, m, k, _, h1, _⟩ := h; exact ⟨m, k, h1⟩
theorem NI.refl {a : LSpan} (h : SVs a) : NI a a := by obtain ⟨l, h, h1⟩ := h; exact ⟨l, h, l, h, h1, h1, Int.le_refl _, Int.le_refl _⟩
theorem ni_all {a : LSpan} (h : SVs a) : NI a (span_All M0) := by obtain ⟨l, h, h1⟩ := h; exact ⟨l, h, _, _, h1, all_sv, h1.b1, h1.b4⟩
theorem ni_zero : NI ⟨0, 0⟩ ⟨0, 0⟩ := NI.refl ⟨0, 0, zero_sv⟩

theorem F_eqz {s : Int} (h : pl s) : M0.eq (F s) 0 = decide (s = 0) := by
  have := eq_F h pl_zero
  rw [F_zero] at this; exact this
theorem F_le0 {s : Int} (h : pl s) : M0.le (F s) 0 = decide (s ≤ 0) := by
  have := le_F h pl_zero
  rw [F_zero] at this; exact this
theorem F_ge0 {s : Int} (h : pl s) : M0.ge (F s) 0 = decide (0 ≤ s) := by
  have := ge_F h pl_zero
  rw [F_zero] at this; exact this
theorem F_lt0 {s : Int} (h : pl s) : M0.lt (F s) 0 = decide (s < 0) := by
  have := lt_F h pl_zero
  rw [F_zero] at this; exact this
theorem F_gt0 {s : Int} (h : pl s) : M0.gt (F s) 0 = decide (0 < s) := by
  have := gt_F h pl_zero
  rw [F_zero] at this; exact this
theorem F_max0 {s : Int} (h : pl s) : M0.max (F s) 0 = F (max s 0) := by
  have := max_F h pl_zero
  rw [F_zero] at this; exact this

/-! ### Sums -/
theorem low_num (s : Int) : span_low M0 (F s) 0 = F s := rfl
theorem low_err (x : Nat) : span_low M0 x 10 = F (-(I : Int)) := inf_lo
theorem high_num (s : Int) : span_high M0 (F s) 0 = F s := rfl
theorem high_err (x : Nat) : span_high M0 x 10 = F I := inf_hi

theorem add_low {l m : Int} (hl : pl l) (hm : pl m) : ∃ s, span_low M0 (round_Add M0 (F l) (F m) true).1 (round_Add M0 (F l) (F m) true).2 = F s ∧ round_Add.ok M0 (F l) (F m) true = true ∧ -(I : Int) ≤ s ∧ s < I ∧
    (nm l ∧ nm m → isD s (fun z => z ≤ Wi l + Wi m)) ∧ (¬ (nm l ∧ nm m) → s = -(I : Int)) := by
  by_cases h : nm l ∧ nm m
  · obtain ⟨s, h1, h2, h3⟩ := addD h.1 h.2
    refine ⟨s, by rw [h1]; rfl, h2, h3.lo, h3.hi, fun _ => h3, fun k => absurd h k⟩
  · obtain ⟨h1, h2⟩ := add_inf hl hm h true
    have := I_pos
    exact ⟨_, by rw [h1]; exact low_err _, h2, by omega, by omega, fun k => absurd k h, fun _ => rfl⟩
theorem add_high {l m : Int} (hl : pl l) (hm : pl m) : ∃ s, span_high M0 (round_Add M0 (F l) (F m) false).1 (round_Add M0 (F l) (F m) false).2 = F s ∧ round_Add.ok M0 (F l) (F m) false = true ∧ -(I : Int) < s ∧ s ≤ I ∧
    (nm l ∧ nm m → isU s (fun z => Wi l + Wi m ≤ z)) ∧ (¬ (nm l ∧ nm m) → s = (I : Int)) := by
  by_cases h : nm l ∧ nm m
  · obtain ⟨s, h1, h2, h3⟩ := addU h.1 h.2
    refine ⟨s, by rw [h1]; rfl, h2, h3.lo, h3.hi, fun _ => h3, fun k => absurd h k⟩
  · obtain ⟨h1, h2⟩ := add_inf hl hm h false
    have := I_pos
    exact ⟨_, by rw [h1]; exact high_err _, h2, by omega, by omega, fun k => absurd k h, fun _ => rfl⟩

/-- All of a sum. -/
theorem add_sv {a b : LSpan} {l h m k : Int} (sa : SV a l h) (sb : SV b m k) : ∃ s t, SV (span_Add M0 a b) s t ∧ span_Add.ok M0 a b = true ∧
    (nm l ∧ nm m → isD s (fun z => z ≤ Wi l + Wi m)) ∧ (¬ (nm l ∧ nm m) → s = -(I : Int)) ∧ (nm h ∧ nm k → isU t (fun z => Wi h + Wi k ≤ z)) ∧ (¬ (nm h ∧ nm k) → t = (I : Int)) := by
  obtain ⟨s, s1, s2, s3, s4, s5, s6⟩ := add_low sa.pl sb.pl
  obtain ⟨t, t1, t2, t3, t4, t5, t6⟩ := add_high sa.ph sb.ph
  refine ⟨s, t, ⟨?_, ?_, ?_, s3, s4, t3, t4⟩, ?_, s5, s6, t5, t6⟩
  · rw [← s1, ← sa.lo, ← sb.lo]; rfl
  · rw [← t1, ← sa.hi, ← sb.hi]; rfl
  · by_cases c1 : nm l ∧ nm m
    · by_cases c2 : nm h ∧ nm k
      · have h1 := Wi_le.2 sa.le
        have h2 := Wi_le.2 sb.le
        exact isD_le_isU (s5 c1) (t5 c2) fun x y hx hy => by omega
      · rw [t6 c2]; omega
    · rw [s6 c1]; omega
  · unfold span_Add.ok
    rw [sa.lo, sa.hi, sb.lo, sb.hi, s2, t2]; rfl
theorem add_ok {a b : LSpan} (ha : SVs a) (hb : SVs b) : span_Add.ok M0 a b = true := by
  obtain ⟨l, h, sa⟩ := ha
  obtain ⟨m, k, sb⟩ := hb
  obtain ⟨s, t, _, h1, _⟩ := add_sv sa sb
  exact h1

theorem add_ni {a b a' b' : LSpan} (ha : NI a a') (hb : NI b b') : NI (span_Add M0 a b) (span_Add M0 a' b') := by
  obtain ⟨l, h, l', h', sa, sa', a1, a2⟩ := ha
  obtain ⟨m, k, m', k', sb, sb', b1, b2⟩ := hb
  obtain ⟨s, t, q, _, d1, d2, u1, u2⟩ := add_sv sa sb
  obtain ⟨s', t', q', _, d1', d2', u1', u2'⟩ := add_sv sa' sb'
  refine ⟨s, t, s', t', q, q', ?_, ?_⟩
  · by_cases c : nm l' ∧ nm m'
    · have n1 : nm l := ⟨by have := c.1.1; omega, sa.b2⟩
      have n2 : nm m := ⟨by have := c.2.1; omega, sb.b2⟩
      have h1 := Wi_le.2 a1
      have h2 := Wi_le.2 b1
      exact (d1' c).mono (d1 ⟨n1, n2⟩) fun w hw => by omega
    · rw [d2' c]; exact q.b1
  · by_cases c : nm h' ∧ nm k'
    · have n1 : nm h := ⟨sa.b3, by have := c.1.2; omega⟩
      have n2 : nm k := ⟨sb.b3, by have := c.2.2; omega⟩
      have h1 := Wi_le.2 a2
      have h2 := Wi_le.2 b2
      exact (u1' c).mono (u1 ⟨n1, n2⟩) fun w hw => by omega
    · rw [u2' c]; exact q.b4

theorem pl_neg {s : Int} (h : pl s) : pl (-s) := ⟨by have := h.2; omega, by have := h.1; omega⟩
theorem neg_sv {a : LSpan} {l h : Int} (s : SV a l h) : SV (span_Neg M0 a) (-h) (-l) := by
  refine ⟨?_, ?_, ?_, ?_, ?_, ?_, ?_⟩
  · unfold span_Neg; dsimp only; rw [s.hi, neg_F s.ph]
  · unfold span_Neg; dsimp only; rw [s.lo, neg_F s.pl]
  · have := s.le; omega
  · have := s.b4; omega
  · have := s.b3; omega
  · have := s.b2; omega
  · have := s.b1; omega
theorem neg_ni {a a' : LSpan} (ha : NI a a') : NI (span_Neg M0 a) (span_Neg M0 a') := by
  obtain ⟨l, h, l', h', sa, sa', a1, a2⟩ := ha
  exact ⟨_, _, _, _, neg_sv sa, neg_sv sa', by omega, by omega⟩
theorem sub_ni {a b a' b' : LSpan} (ha : NI a a') (hb : NI b b') : NI (span_Sub M0 a b) (span_Sub M0 a' b') := add_ni ha (neg_ni hb)
theorem sub_ok {a b : LSpan} (ha : SVs a) (hb : SVs b) : span_Sub.ok M0 a b = true := by
  unfold span_Sub.ok
  rw [add_ok ha (by obtain ⟨l, h, s⟩ := hb; exact ⟨_, _, neg_sv s⟩)]; rfl

/-! ### Products -/
theorem corner_lo {l h m k x y : Int} (h1 : l ≤ x) (h2 : x ≤ h) (h3 : m ≤ y) (h4 : y ≤ k) : l * m ≤ x * y ∨ l * k ≤ x * y ∨ h * m ≤ x * y ∨ h * k ≤ x * y := by
  rcases Int.le_total 0 y with hy | hy
  · have e1 : l * y ≤ x * y := Int.mul_le_mul_of_nonneg_right h1 hy
    rcases Int.le_total 0 l with hl | hl
    · exact .inl (Int.le_trans (Int.mul_le_mul_of_nonneg_left h3 hl) e1)
    · exact .inr (.inl (Int.le_trans (Int.mul_le_mul_of_nonpos_left hl h4) e1))
  · have e1 : h * y ≤ x * y := Int.mul_le_mul_of_nonpos_right h2 hy
    rcases Int.le_total 0 h with hl | hl
    · exact .inr (.inr (.inl (Int.le_trans (Int.mul_le_mul_of_nonneg_left h3 hl) e1)))
    · exact .inr (.inr (.inr (Int.le_trans (Int.mul_le_mul_of_nonpos_left hl h4) e1)))
theorem corner_hi {l h m k x y : Int} (h1 : l ≤ x) (h2 : x ≤ h) (h3 : m ≤ y) (h4 : y ≤ k) : x * y ≤ l * m ∨ x * y ≤ l * k ∨ x * y ≤ h * m ∨ x * y ≤ h * k := by
  have := corner_lo (l := -h) (h := -l) (m := m) (k := k) (x := -x) (y := y) (by omega) (by omega) h3 h4
  simp only [Int.neg_mul] at this
  omega

/-- The least of four, the greatest of four, from an infinite one on. -/
theorem min4_F {a b c d : Int} {P1 P2 P3 P4 : Int → Prop} (ha : isD a P1) (hb : isD b P2) (hc : isD c P3) (hd : isD d P4) : M0.min (M0.min (M0.min (M0.min (math_Inf M0 1) (F a)) (F b)) (F c)) (F d) = F (min (min (min a b) c) d) := by
  have := I_pos
  have pa := ha.pl
  have pb := hb.pl
  have pc := hc.pl
  have pd := hd.pl
  have a2 := ha.hi
  have i1 : pl (I : Int) := ⟨by omega, by omega⟩
  unfold pl at *
  rw [inf_hi, min_F i1 pa, Int.min_eq_right (by omega), min_F pa pb, min_F ⟨by omega, by omega⟩ pc, min_F ⟨by omega, by omega⟩ pd]
theorem max4_F {a b c d : Int} {P1 P2 P3 P4 : Int → Prop} (ha : isU a P1) (hb : isU b P2) (hc : isU c P3) (hd : isU d P4) : M0.max (M0.max (M0.max (M0.max (math_Inf M0 (-1)) (F a)) (F b)) (F c)) (F d) = F (max (max (max a b) c) d) := by
  have := I_pos
  have pa := ha.pl
  have pb := hb.pl
  have pc := hc.pl
  have pd := hd.pl
  have a2 := ha.lo
  have i1 : pl (-(I : Int)) := ⟨by omega, by omega⟩
  unfold pl at *
  rw [inf_lo, max_F i1 pa, Int.max_eq_right (by omega), max_F pa pb, max_F ⟨by omega, by omega⟩ pc, max_F ⟨by omega, by omega⟩ pd]

def isZ (a : LSpan) : Bool := M0.eq a.lo 0 && (M0.eq a.hi 0 && true)
theorem isZ_sv {a : LSpan} {l h : Int} (s : SV a l h) : isZ a = decide (l = 0 ∧ h = 0) := by
  unfold isZ
  rw [s.lo, s.hi, F_eqz s.pl, F_eqz s.ph]
  by_cases h1 : l = 0 <;> by_cases h2 : h = 0 <;> simp [h1, h2]

/-- What is made of the four corners. -/
structure Four (D U : Int → Int → Int → Prop) (l h m k s t : Int) : Prop where
  d : ∃ d1 d2 d3 d4, isD d1 (D (Wi l) (Wi m)) ∧ isD d2 (D (Wi l) (Wi k)) ∧ isD d3 (D (Wi h) (Wi m)) ∧ isD d4 (D (Wi h) (Wi k)) ∧ s = min (min (min d1 d2) d3) d4
  u : ∃ u1 u2 u3 u4, isU u1 (U (Wi l) (Wi m)) ∧ isU u2 (U (Wi l) (Wi k)) ∧ isU u3 (U (Wi h) (Wi m)) ∧ isU u4 (U (Wi h) (Wi k)) ∧ t = max (max (max u1 u2) u3) u4

theorem Four.le {D U : Int → Int → Int → Prop} {l h m k s t : Int} (f : Four D U l h m k s t) (hDU : ∀ x y, D (Wi l) (Wi m) x → U (Wi l) (Wi m) y → x ≤ y) : s ≤ t := by
  obtain ⟨d1, d2, d3, d4, a1, _, _, _, rfl⟩ := f.d
  obtain ⟨u1, u2, u3, u4, b1, _, _, _, rfl⟩ := f.u
  have := isD_le_isU a1 b1 hDU
  omega
theorem Four.bounds {D U : Int → Int → Int → Prop} {l h m k s t : Int} (f : Four D U l h m k s t) : -(I : Int) ≤ s ∧ s < I ∧ -(I : Int) < t ∧ t ≤ I := by
  obtain ⟨d1, d2, d3, d4, a1, a2, a3, a4, rfl⟩ := f.d
  obtain ⟨u1, u2, u3, u4, b1, b2, b3, b4, rfl⟩ := f.u
  have := a1.lo; have := a2.lo; have := a3.lo; have := a4.lo
  have := a1.hi
  have := b1.lo
  have := b1.hi; have := b2.hi; have := b3.hi; have := b4.hi
  omega

theorem Four.lower {D U : Int → Int → Int → Prop} {l h m k s t : Int} (f : Four D U l h m k s t) {d : Int} {P : Int → Prop} (hd : isD d P)
    (hc : (∀ z, D (Wi l) (Wi m) z → P z) ∨ (∀ z, D (Wi l) (Wi k) z → P z) ∨ (∀ z, D (Wi h) (Wi m) z → P z) ∨ (∀ z, D (Wi h) (Wi k) z → P z)) : s ≤ d := by
  obtain ⟨d1, d2, d3, d4, a1, a2, a3, a4, rfl⟩ := f.d
  rcases hc with h1 | h1 | h1 | h1
  · have := a1.mono hd h1; omega
  · have := a2.mono hd h1; omega
  · have := a3.mono hd h1; omega
  · have := a4.mono hd h1; omega
theorem Four.upper {D U : Int → Int → Int → Prop} {l h m k s t : Int} (f : Four D U l h m k s t) {u : Int} {P : Int → Prop} (hu : isU u P)
    (hc : (∀ z, U (Wi l) (Wi m) z → P z) ∨ (∀ z, U (Wi l) (Wi k) z → P z) ∨ (∀ z, U (Wi h) (Wi m) z → P z) ∨ (∀ z, U (Wi h) (Wi k) z → P z)) : u ≤ t := by
  obtain ⟨d1, d2, d3, d4, a1, a2, a3, a4, rfl⟩ := f.u
  rcases hc with h1 | h1 | h1 | h1
  · have := a1.mono hu h1; omega
  · have := a2.mono hu h1; omega
  · have := a3.mono hu h1; omega
  · have := a4.mono hu h1; omega

/-- Corners of inner ones, by corners of outer ones. -/
theorem Four.mono {D U : Int → Int → Int → Prop} {l h m k s t l' h' m' k' s' t' : Int} (f : Four D U l h m k s t) (f' : Four D U l' h' m' k' s' t')
    (hD : ∀ x y, (x = Wi l ∨ x = Wi h) → (y = Wi m ∨ y = Wi k) → (∀ z, D (Wi l') (Wi m') z → D x y z) ∨ (∀ z, D (Wi l') (Wi k') z → D x y z) ∨ (∀ z, D (Wi h') (Wi m') z → D x y z) ∨ (∀ z, D (Wi h') (Wi k') z → D x y z))
    (hU : ∀ x y, (x = Wi l ∨ x = Wi h) → (y = Wi m ∨ y = Wi k) → (∀ z, U (Wi l') (Wi m') z → U x y z) ∨ (∀ z, U (Wi l') (Wi k') z → U x y z) ∨ (∀ z, U (Wi h') (Wi m') z → U x y z) ∨ (∀ z, U (Wi h') (Wi k') z → U x y z)) : s' ≤ s ∧ t ≤ t' := by
  constructor
  · obtain ⟨d1, d2, d3, d4, a1, a2, a3, a4, rfl⟩ := f.d
    have := f'.lower a1 (hD _ _ (.inl rfl) (.inl rfl))
    have := f'.lower a2 (hD _ _ (.inl rfl) (.inr rfl))
    have := f'.lower a3 (hD _ _ (.inr rfl) (.inl rfl))
    have := f'.lower a4 (hD _ _ (.inr rfl) (.inr rfl))
    omega
  · obtain ⟨d1, d2, d3, d4, a1, a2, a3, a4, rfl⟩ := f.u
    have := f'.upper a1 (hU _ _ (.inl rfl) (.inl rfl))
    have := f'.upper a2 (hU _ _ (.inl rfl) (.inr rfl))
    have := f'.upper a3 (hU _ _ (.inr rfl) (.inl rfl))
    have := f'.upper a4 (hU _ _ (.inr rfl) (.inr rfl))
    omega

def MD (x y z : Int) : Prop := z * C ≤ x * y
def MU (x y z : Int) : Prop := x * y ≤ z * C
theorem MDU {x y a b : Int} (h : MD x y a) (k : MU x y b) : a ≤ b := Int.le_of_mul_le_mul_right (Int.le_trans h k) C_pos

/-- All of a product. -/
theorem mul_sv {a b : LSpan} {l h m k : Int} (sa : SV a l h) (sb : SV b m k) : ∃ s t, SV (span_Mul M0 a b) s t ∧ span_Mul.ok M0 a b = true ∧
    ((l = 0 ∧ h = 0) ∨ (m = 0 ∧ k = 0) → s = 0 ∧ t = 0) ∧
    (¬ ((l = 0 ∧ h = 0) ∨ (m = 0 ∧ k = 0)) → ¬ ((nm l ∧ nm h) ∧ (nm m ∧ nm k)) → s = -(I : Int) ∧ t = I) ∧
    (¬ ((l = 0 ∧ h = 0) ∨ (m = 0 ∧ k = 0)) → (nm l ∧ nm h) ∧ (nm m ∧ nm k) → Four MD MU l h m k s t) := by
  have z1 := isZ_sv sa
  have z2 := isZ_sv sb
  unfold isZ at z1 z2
  by_cases c1 : l = 0 ∧ h = 0
  · refine ⟨0, 0, ?_, ?_, fun _ => ⟨rfl, rfl⟩, fun k => absurd (.inl c1) k, fun k => absurd (.inl c1) k⟩
    · unfold span_Mul; rw [z1, decide_eq_true c1]; exact zero_sv
    · unfold span_Mul.ok; rw [z1, decide_eq_true c1]; rfl
  · by_cases c2 : m = 0 ∧ k = 0
    · refine ⟨0, 0, ?_, ?_, fun _ => ⟨rfl, rfl⟩, fun k => absurd (.inr c2) k, fun k => absurd (.inr c2) k⟩
      · unfold span_Mul; rw [z1, decide_eq_false c1, z2, decide_eq_true c2]; exact zero_sv
      · unfold span_Mul.ok; rw [z1, decide_eq_false c1, z2, decide_eq_true c2]; rfl
    · have c : ¬ ((l = 0 ∧ h = 0) ∨ (m = 0 ∧ k = 0)) := fun hh => hh.elim c1 c2
      by_cases c3 : nm l ∧ nm h
      · by_cases c4 : nm m ∧ nm k
        · obtain ⟨d1, e1, o1, q1⟩ := mulD c3.1 c4.1
          obtain ⟨d2, e2, o2, q2⟩ := mulD c3.1 c4.2
          obtain ⟨d3, e3, o3, q3⟩ := mulD c3.2 c4.1
          obtain ⟨d4, e4, o4, q4⟩ := mulD c3.2 c4.2
          obtain ⟨u1, f1, p1, r1⟩ := mulU c3.1 c4.1
          obtain ⟨u2, f2, p2, r2⟩ := mulU c3.1 c4.2
          obtain ⟨u3, f3, p3, r3⟩ := mulU c3.2 c4.1
          obtain ⟨u4, f4, p4, r4⟩ := mulU c3.2 c4.2
          have four : Four MD MU l h m k (min (min (min d1 d2) d3) d4) (max (max (max u1 u2) u3) u4) := ⟨⟨d1, d2, d3, d4, q1, q2, q3, q4, rfl⟩, ⟨u1, u2, u3, u4, r1, r2, r3, r4, rfl⟩⟩
          obtain ⟨b1, b2, b3, b4⟩ := four.bounds
          refine ⟨_, _, ⟨?_, ?_, four.le fun x y => MDU, b1, b2, b3, b4⟩, ?_, fun k => absurd k c, fun _ k => absurd ⟨c3, c4⟩ k, fun _ _ => four⟩
          · unfold span_Mul
            rw [z1, decide_eq_false c1, z2, decide_eq_false c2, sa.wide.1, decide_eq_false (by simp [c3]), sb.wide.1, decide_eq_false (by simp [c4])]
            simp only [cond_false]
            rw [sa.lo, sa.hi, sb.lo, sb.hi, e1, e2, e3, e4]
            exact min4_F q1 q2 q3 q4
          · unfold span_Mul
            rw [z1, decide_eq_false c1, z2, decide_eq_false c2, sa.wide.1, decide_eq_false (by simp [c3]), sb.wide.1, decide_eq_false (by simp [c4])]
            simp only [cond_false]
            rw [sa.lo, sa.hi, sb.lo, sb.hi, f1, f2, f3, f4]
            exact max4_F r1 r2 r3 r4
          · unfold span_Mul.ok
            rw [z1, decide_eq_false c1, z2, decide_eq_false c2, sa.wide.1, sa.wide.2, decide_eq_false (by simp [c3]), sb.wide.1, sb.wide.2, decide_eq_false (by simp [c4])]
            simp only [cond_false, cond_true]
            rw [sa.lo, sa.hi, sb.lo, sb.hi, o1, o2, o3, o4, p1, p2, p3, p4]; rfl
        · refine ⟨_, _, ?_, ?_, fun k => absurd k c, fun _ _ => ⟨rfl, rfl⟩, fun _ k => absurd k.2 c4⟩
          · unfold span_Mul; rw [z1, decide_eq_false c1, z2, decide_eq_false c2, sa.wide.1, decide_eq_false (by simp [c3]), sb.wide.1, decide_eq_true c4]; exact all_sv
          · unfold span_Mul.ok; rw [z1, decide_eq_false c1, z2, decide_eq_false c2, sa.wide.1, sa.wide.2, decide_eq_false (by simp [c3]), sb.wide.1, sb.wide.2, decide_eq_true c4]; rfl
      · refine ⟨_, _, ?_, ?_, fun k => absurd k c, fun _ _ => ⟨rfl, rfl⟩, fun _ k => absurd k.1 c3⟩
        · unfold span_Mul; rw [z1, decide_eq_false c1, z2, decide_eq_false c2, sa.wide.1, decide_eq_true c3]; exact all_sv
        · unfold span_Mul.ok; rw [z1, decide_eq_false c1, z2, decide_eq_false c2, sa.wide.1, sa.wide.2, decide_eq_true c3]; rfl
theorem mul_ok {a b : LSpan} (ha : SVs a) (hb : SVs b) : span_Mul.ok M0 a b = true := by
  obtain ⟨l, h, sa⟩ := ha
  obtain ⟨m, k, sb⟩ := hb
  obtain ⟨s, t, _, h1, _⟩ := mul_sv sa sb
  exact h1

theorem mul_ni {a b a' b' : LSpan} (ha : NI a a') (hb : NI b b') : NI (span_Mul M0 a b) (span_Mul M0 a' b') := by
  obtain ⟨l, h, l', h', sa, sa', a1, a2⟩ := ha
  obtain ⟨m, k, m', k', sb, sb', b1, b2⟩ := hb
  obtain ⟨s, t, q, _, z, w, f⟩ := mul_sv sa sb
  obtain ⟨s', t', q', _, z', w', f'⟩ := mul_sv sa' sb'
  refine ⟨s, t, s', t', q, q', ?_⟩
  have e1 := sa.le; have e2 := sb.le
  by_cases c' : (l' = 0 ∧ h' = 0) ∨ (m' = 0 ∧ k' = 0)
  · obtain ⟨rfl, rfl⟩ := z' c'
    have : (l = 0 ∧ h = 0) ∨ (m = 0 ∧ k = 0) := by omega
    obtain ⟨rfl, rfl⟩ := z this
    omega
  · by_cases n' : (nm l' ∧ nm h') ∧ (nm m' ∧ nm k')
    · have F' := f' c' n'
      have i1 := Wi_le.2 a1
      have i2 := Wi_le.2 a2
      have i3 := Wi_le.2 b1
      have i4 := Wi_le.2 b2
      have i5 := Wi_le.2 e1
      have i6 := Wi_le.2 e2
      by_cases c : (l = 0 ∧ h = 0) ∨ (m = 0 ∧ k = 0)
      · obtain ⟨rfl, rfl⟩ := z c
        have hz : Wi l * Wi m = 0 := by
          rcases c with ⟨rfl, _⟩ | ⟨rfl, _⟩
          · rw [Wi_zero, Int.zero_mul]
          · rw [Wi_zero, Int.mul_zero]
        have hI := I_pos
        have zd : isD 0 (fun z => z * C ≤ 0) := ⟨by omega, by omega, .inr (by rw [Wi_zero, Int.zero_mul]; omega), fun t ht _ hP => by
          have := Int.mul_pos (Wi_pos.2 ht) C_pos
          omega⟩
        have zu : isU 0 (fun z => 0 ≤ z * C) := ⟨by omega, by omega, .inr (by rw [Wi_zero, Int.zero_mul]; omega), fun t _ ht hP => by
          have := Int.mul_neg_of_neg_of_pos (Wi_neg_iff.2 ht) C_pos
          omega⟩
        constructor
        · have := corner_lo (x := Wi l) (y := Wi m) i1 (Int.le_trans i5 i2) i3 (Int.le_trans i6 i4)
          rw [hz] at this
          refine F'.lower zd ?_
          rcases this with h1 | h1 | h1 | h1
          · exact .inl fun z hz => Int.le_trans hz h1
          · exact .inr (.inl fun z hz => Int.le_trans hz h1)
          · exact .inr (.inr (.inl fun z hz => Int.le_trans hz h1))
          · exact .inr (.inr (.inr fun z hz => Int.le_trans hz h1))
        · have := corner_hi (x := Wi l) (y := Wi m) i1 (Int.le_trans i5 i2) i3 (Int.le_trans i6 i4)
          rw [hz] at this
          refine F'.upper zu ?_
          rcases this with h1 | h1 | h1 | h1
          · exact .inl fun z hz => Int.le_trans h1 hz
          · exact .inr (.inl fun z hz => Int.le_trans h1 hz)
          · exact .inr (.inr (.inl fun z hz => Int.le_trans h1 hz))
          · exact .inr (.inr (.inr fun z hz => Int.le_trans h1 hz))
      · have n : (nm l ∧ nm h) ∧ (nm m ∧ nm k) := by
          obtain ⟨⟨x1, x2⟩, x3, x4⟩ := n'
          unfold nm at *
          omega
        refine (f c n).mono F' (fun x y hx hy => ?_) (fun x y hx hy => ?_)
        · have := corner_lo (x := x) (y := y) (l := Wi l') (h := Wi h') (m := Wi m') (k := Wi k') (by omega) (by omega) (by omega) (by omega)
          rcases this with h1 | h1 | h1 | h1
          · exact .inl fun z hz => Int.le_trans hz h1
          · exact .inr (.inl fun z hz => Int.le_trans hz h1)
          · exact .inr (.inr (.inl fun z hz => Int.le_trans hz h1))
          · exact .inr (.inr (.inr fun z hz => Int.le_trans hz h1))
        · have := corner_hi (x := x) (y := y) (l := Wi l') (h := Wi h') (m := Wi m') (k := Wi k') (by omega) (by omega) (by omega) (by omega)
          rcases this with h1 | h1 | h1 | h1
          · exact .inl fun z hz => Int.le_trans h1 hz
          · exact .inr (.inl fun z hz => Int.le_trans h1 hz)
          · exact .inr (.inr (.inl fun z hz => Int.le_trans h1 hz))
          · exact .inr (.inr (.inr fun z hz => Int.le_trans h1 hz))
    · obtain ⟨rfl, rfl⟩ := w' c' n'
      exact ⟨q.b1, q.b4⟩

end Go.Lan
