/- ShapeBoxes, over numbers. -/
import Derived.Test.YtpgjihkaocahbaaMcon
namespace Go.Lan

attribute [local irreducible] B C

theorem at_const {n : Nat} (h : n ≤ I) : At n (n : Int) := ⟨false, n, h, rfl, rfl⟩

theorem fit_num {x : Nat} (h : x < m64) : ∃ s, lanternhand_Fit M0 x = F s ∧ nm s := by
  have hI := I_eq
  have none : lanternhand_Fits M0 x = false → ∃ s, lanternhand_Fit M0 x = F s ∧ nm s := fun e => by
    refine ⟨4607182418800017408, ?_, by unfold nm; omega⟩
    unfold lanternhand_Fit
    rw [e]
    exact (F_nat 4607182418800017408).symm
  rcases word_at h with ⟨s, hs⟩ | hn
  · have a0 := At_F pl_zero
    rw [F_zero] at a0
    have hneg := neg_at hs
    have c1 := at_const (n := 4156822456062967808) (by omega)
    have c2 := at_const (n := 5057542381537067008) (by omega)
    have key : lanternhand_Fits M0 x = true → nm s := by
      unfold lanternhand_Fits
      dsimp only
      rw [hs.lt a0, hs.eq a0, hs.ge c1, hs.le c2, hneg.eq a0, hneg.ge c1, hneg.le c2]
      unfold nm
      by_cases b1 : s < 0
      · rw [decide_eq_true b1, cond_true, decide_eq_false (by omega), cond_false]
        cases decide (((4156822456062967808 : Nat) : Int) ≤ -s)
        · intro h; cases h
        · rw [cond_true, decide_eq_true_eq]; omega
      · rw [decide_eq_false b1, cond_false]
        by_cases b2 : s = 0
        · intro _; omega
        · rw [decide_eq_false b2, cond_false]
          cases decide (((4156822456062967808 : Nat) : Int) ≤ s)
          · intro h; cases h
          · rw [cond_true, decide_eq_true_eq]; omega
    cases hf : lanternhand_Fits M0 x with
    | false => exact none hf
    | true =>
      refine ⟨s, ?_, key hf⟩
      unfold lanternhand_Fit
      rw [hf]
      exact hs.plain
  · refine none ?_
    unfold lanternhand_Fits
    obtain ⟨h1, h2, h3, h4, h5, h6, h7, h8, h9, h10⟩ := nan_cmp hn 0
    rw [h5, h9, (nan_cmp hn 4156822456062967808).2.2.1]
    rfl

theorem refOf_num {s : Int} (n : nm s) : lanternref02_Of M0 (F s) = ⟨F s, F s⟩ := by
  have z : lanternref01_Zeroed M0 (F s) = F s := by
    unfold lanternref01_Zeroed
    rw [F_eqz n.pl]
    by_cases h : s = 0
    · subst h; rw [decide_eq_true rfl, cond_true, F_zero]
    · rw [decide_eq_false h, cond_false]
  unfold lanternref02_Of
  rw [refNumber n.pl, decide_eq_true n, z]
  rfl
theorem of_at {x : Nat} {s : Int} (h : At x s) (n : nm s) : span_Of M0 x = ⟨F s, F s⟩ ∧ span_Of.ok M0 x = true := by
  refine ⟨?_, ofok_wd h⟩
  unfold span_Of
  rw [h.plain]
  obtain ⟨m, r, h1, rfl, rfl⟩ := h
  have hr : r < I := by
    unfold nm K at n
    cases m
    · rw [sgf] at n; omega
    · rw [sgt] at n; omega
  rw [number_wd hr]; rfl

theorem Wi_one : Wi 4607182418800017408 = C := by
  obtain ⟨z, hz⟩ : ∃ z : Nat, z = 1022 := ⟨_, rfl⟩
  have h := (one_V hz).1
  have e := Wi_nat 4607182418800017408
  rw [h] at e
  refine Eq.trans e ?_
  rw [B_eq, ← Nat.pow_add]
  exact C_of (by omega)
theorem Rv_one : Rv 4607182418800017408 = 1 := by
  have := CR_pos
  unfold Rv
  rw [Wi_one]
  grind

/-- A share from 0 to 1. -/
theorem unit_at {x : Nat} (hx : x < m64) (h0 : M0.ge x 0 = true) (h1 : M0.le x 4607182418800017408 = true) : ∃ s, At x s ∧ nm s ∧ 0 ≤ s ∧ s ≤ 4607182418800017408 := by
  have hI := I_eq
  rcases word_at hx with ⟨s, hs⟩ | hn
  · have a0 := At_F pl_zero
    rw [F_zero] at a0
    rw [hs.ge a0, decide_eq_true_eq] at h0
    rw [hs.le one_at, decide_eq_true_eq] at h1
    exact ⟨s, hs, by unfold nm; omega, h0, h1⟩
  · rw [(nan_cmp hn 0).2.2.1] at h0; cases h0

/-- The root of a share is one. -/
theorem root_unit {s : Int} (n : nm s) (h0 : 0 ≤ s) (h1 : s ≤ 4607182418800017408) : ∃ r : Rat, Hs (span_Sqrt M0 ⟨F s, F s⟩) r ∧ 0 ≤ r ∧ r ≤ 1 := by
  have hI := I_pos
  have sa : SV ⟨F s, F s⟩ s s := SV.mk' rfl rfl n n (Int.le_refl _)
  obtain ⟨l, h, q, _, _, f⟩ := sqrt_sv sa
  obtain ⟨d, u⟩ := f h0 ⟨n, n⟩
  rw [Int.max_eq_left h0] at d
  have hC := C_pos
  have hl0 : 0 ≤ l := by
    rcases Int.lt_or_le l 0 with h2 | h2
    · exfalso
      refine d.top 0 h2 hI (.inr ?_)
      rw [Wi_zero]
      have : 0 ≤ Wi s := by have := Wi_le.2 h0; rw [Wi_zero] at this; exact this
      have := Int.mul_nonneg this (Int.le_of_lt hC)
      omega
    · exact h2
  refine ⟨Rv l, hs_lo q, ?_, ?_⟩
  · have := Rv_le.2 hl0
    rw [Rv_zero] at this
    exact this
  · have : l ≤ 4607182418800017408 := by
      rw [← Wi_le, Wi_one]
      rcases d.at_ with h2 | h2
      · omega
      · have h3 : 0 ≤ Wi l := by have := Wi_le.2 hl0; rw [Wi_zero] at this; exact this
        rcases h2 with h2 | h2
        · omega
        · have h4 : Wi s ≤ C := by have := Wi_le.2 h1; rw [Wi_one] at this; exact this
          have h5 : Wi s * C ≤ C * C := Int.mul_le_mul_of_nonneg_right h4 (Int.le_of_lt hC)
          rcases Int.lt_or_le C (Wi l) with h6 | h6
          · exfalso
            have h7 : C * C < Wi l * Wi l := Int.mul_lt_mul h6 (Int.le_of_lt h6) hC h3
            omega
          · exact h6
    have := Rv_le.2 this
    rw [Rv_one] at this
    exact this

/-- A point between three. -/
theorem between {A B C r v m : Rat} (hr : 0 ≤ r) (hr1 : r ≤ 1) (hv : 0 ≤ v) (hv1 : v ≤ 1) :
    (m ≤ A → m ≤ B → m ≤ C → m ≤ A + ((B - A) * (r * (1 - v)) + (C - A) * (r * v))) ∧ (A ≤ m → B ≤ m → C ≤ m → A + ((B - A) * (r * (1 - v)) + (C - A) * (r * v)) ≤ m) := by
  have w1 : 0 ≤ 1 - r := by grind
  have w2 : 0 ≤ r * (1 - v) := Rat.mul_nonneg hr (by grind)
  have w3 : 0 ≤ r * v := Rat.mul_nonneg hr hv
  constructor
  · intro a b c
    have x1 := Rat.mul_nonneg (show 0 ≤ A - m by grind) w1
    have x2 := Rat.mul_nonneg (show 0 ≤ B - m by grind) w2
    have x3 := Rat.mul_nonneg (show 0 ≤ C - m by grind) w3
    grind
  · intro a b c
    have x1 := Rat.mul_nonneg (show 0 ≤ m - A by grind) w1
    have x2 := Rat.mul_nonneg (show 0 ≤ m - B by grind) w2
    have x3 := Rat.mul_nonneg (show 0 ≤ m - C by grind) w3
    grind

theorem hull_num {a b : Int} {l h : Int} {s : LSpan} (hs : SV s l h) (n : nm b) (_ : a = 0) : SV (span_Hull M0 s ⟨F b, F b⟩) (min l b) (max h b) := by
  have hle := hs.le
  have := hs.b1; have := hs.b2; have := hs.b3; have := hs.b4
  unfold nm at n
  refine ⟨?_, ?_, by omega, by omega, by omega, by omega, by omega⟩
  · show M0.min s.lo (F b) = _
    rw [hs.lo, min_F hs.pl ⟨by omega, by omega⟩]
  · show M0.max s.hi (F b) = _
    rw [hs.hi, max_F hs.ph ⟨by omega, by omega⟩]

/-- One direction: the corners and the point lie in the box. -/
theorem box_dir {a b c : Int} (na : nm a) (nb : nm b) (nc : nm c) {p : LSpan} {r v : Rat} (hr : 0 ≤ r) (hr1 : r ≤ 1) (hv : 0 ≤ v) (hv1 : v ≤ 1)
    (hp : Hs p (Rv a + ((Rv b - Rv a) * (r * (1 - v)) + (Rv c - Rv a) * (r * v)))) :
    (∃ l h, span_Hull M0 (span_Hull M0 ⟨F a, F a⟩ ⟨F b, F b⟩) ⟨F c, F c⟩ = ⟨F l, F h⟩ ∧ M0.lt (F a) (F l) = false ∧ M0.gt (F a) (F h) = false ∧ M0.lt (F b) (F l) = false ∧ M0.gt (F b) (F h) = false ∧ M0.lt (F c) (F l) = false ∧ M0.gt (F c) (F h) = false ∧ M0.gt p.lo (F h) = false ∧ M0.lt p.hi (F l) = false) := by
  have s0 : SV ⟨F a, F a⟩ a a := SV.mk' rfl rfl na na (Int.le_refl _)
  have s2 := hull_num (a := 0) (hull_num (a := 0) s0 nb rfl) nc rfl
  obtain ⟨l, hl⟩ : ∃ l, l = min (min a b) c := ⟨_, rfl⟩
  obtain ⟨h, hh⟩ : ∃ h, h = max (max a b) c := ⟨_, rfl⟩
  rw [← hl, ← hh] at s2
  have hq : Hs (span_Hull M0 (span_Hull M0 ⟨F a, F a⟩ ⟨F b, F b⟩) ⟨F c, F c⟩) (Rv a + ((Rv b - Rv a) * (r * (1 - v)) + (Rv c - Rv a) * (r * v))) :=
    ⟨l, h, s2, .inr ((between hr hr1 hv hv1).1 (Rv_le.2 (by omega)) (Rv_le.2 (by omega)) (Rv_le.2 (by omega))), .inr ((between hr hr1 hv hv1).2 (Rv_le.2 (by omega)) (Rv_le.2 (by omega)) (Rv_le.2 (by omega)))⟩
  obtain ⟨m, k, l2, h2, sp, sh, e1, e2⟩ := hs_meet hp hq
  obtain ⟨rfl, rfl⟩ := sh.uniq s2
  refine ⟨l2, h2, s2.eta, ?_, ?_, ?_, ?_, ?_, ?_, ?_, ?_⟩
  · rw [lt_F na.pl s2.pl]; exact decide_eq_false (by omega)
  · rw [gt_F na.pl s2.ph]; exact decide_eq_false (by omega)
  · rw [lt_F nb.pl s2.pl]; exact decide_eq_false (by omega)
  · rw [gt_F nb.pl s2.ph]; exact decide_eq_false (by omega)
  · rw [lt_F nc.pl s2.pl]; exact decide_eq_false (by omega)
  · rw [gt_F nc.pl s2.ph]; exact decide_eq_false (by omega)
  · rw [sp.lo, gt_F sp.pl s2.ph]; exact decide_eq_false (by omega)
  · rw [sp.hi, lt_F sp.ph s2.pl]; exact decide_eq_false (by omega)

theorem plain_ShapeBoxes (a b c : LTriple) (u v : Nat) (ha : a.wf) (hb : b.wf) (hc : c.wf) (hu : u < 18446744073709551616) (hv : v < 18446744073709551616) : lanternlaw10_ShapeBoxes M0 a b c u v = true ∧ lanternlaw10_ShapeBoxes.ok M0 a b c u v = true := by
  obtain ⟨ha0, ha1, ha2⟩ := ha
  obtain ⟨hb0, hb1, hb2⟩ := hb
  obtain ⟨hc0, hc1, hc2⟩ := hc
  obtain ⟨a0, ea0, na0⟩ := fit_num ha0
  obtain ⟨a1, ea1, na1⟩ := fit_num ha1
  obtain ⟨a2, ea2, na2⟩ := fit_num ha2
  obtain ⟨b0, eb0, nb0⟩ := fit_num hb0
  obtain ⟨b1, eb1, nb1⟩ := fit_num hb1
  obtain ⟨b2, eb2, nb2⟩ := fit_num hb2
  obtain ⟨c0, ec0, nc0⟩ := fit_num hc0
  obtain ⟨c1, ec1, nc1⟩ := fit_num hc1
  obtain ⟨c2, ec2, nc2⟩ := fit_num hc2
  have fa : lanternlaw10_fit M0 a = ⟨F a0, F a1, F a2⟩ := by unfold lanternlaw10_fit; rw [ea0, ea1, ea2]
  have fb : lanternlaw10_fit M0 b = ⟨F b0, F b1, F b2⟩ := by unfold lanternlaw10_fit; rw [eb0, eb1, eb2]
  have fc : lanternlaw10_fit M0 c = ⟨F c0, F c1, F c2⟩ := by unfold lanternlaw10_fit; rw [ec0, ec1, ec2]
  have ht : lanternlaw10_Tri M0 ⟨F a0, F a1, F a2⟩ ⟨F b0, F b1, F b2⟩ ⟨F c0, F c1, F c2⟩ = ⟨1, ⟨⟨⟨F a0, F a0⟩, ⟨F a1, F a1⟩, ⟨F a2, F a2⟩⟩, ⟨⟨F b0, F b0⟩, ⟨F b1, F b1⟩, ⟨F b2, F b2⟩⟩, ⟨⟨F c0, F c0⟩, ⟨F c1, F c1⟩, ⟨F c2, F c2⟩⟩⟩, ⟨0, 0⟩⟩ := by
    unfold lanternlaw10_Tri lanternref03_Of
    dsimp only
    rw [refOf_num na0, refOf_num na1, refOf_num na2, refOf_num nb0, refOf_num nb1, refOf_num nb2, refOf_num nc0, refOf_num nc1, refOf_num nc2]
  unfold lanternlaw10_ShapeBoxes lanternlaw10_ShapeBoxes.ok
  dsimp only
  rw [awake10, awakeok10, fa, fb, fc, ht]
  cases h1 : M0.ge u 0 with
  | false => exact ⟨rfl, rfl⟩
  | true =>
    cases h2 : M0.le u 4607182418800017408 with
    | false => exact ⟨rfl, rfl⟩
    | true =>
      cases h3 : M0.ge v 0 with
      | false => exact ⟨rfl, rfl⟩
      | true =>
        cases h4 : M0.le v 4607182418800017408 with
        | false => exact ⟨rfl, rfl⟩
        | true =>
          obtain ⟨su, au, nu, u0, u1⟩ := unit_at hu h1 h2
          obtain ⟨sv, av, nv, v0, v1⟩ := unit_at hv h3 h4
          obtain ⟨r, hr, r0, r1⟩ := root_unit nu u0 u1
          obtain ⟨eu, ou⟩ := of_at au nu
          obtain ⟨ev, ov⟩ := of_at av nv
          have n1 : nm 4607182418800017408 := by have := I_eq; unfold nm; omega
          obtain ⟨e1, o1⟩ := of_at one_at n1
          have hv0 : 0 ≤ Rv sv := by have := Rv_le.2 v0; rw [Rv_zero] at this; exact this
          have hv1 : Rv sv ≤ 1 := by have := Rv_le.2 v1; rw [Rv_one] at this; exact this
          have hov : Hs (span_Of M0 v) (Rv sv) := by rw [ev]; exact hs_one nv
          have hou : Hs (span_Of M0 u) (Rv su) := by rw [eu]; exact hs_one nu
          have ho1 : Hs (span_Of M0 4607182418800017408) 1 := by have := hs_one n1; rw [Rv_one] at this; rw [e1]; exact this
          have hru : Hs (span_Sqrt M0 (span_Of M0 u)) r := by rw [eu]; exact hr
          have hsec := mul_hs hru (sub_hs ho1 hov)
          have hthi := mul_hs hru hov
          have dir : ∀ {x y z : Int}, nm x → nm y → nm z → Hs (span_Add M0 ⟨F x, F x⟩ (span_Add M0 (span_Mul M0 (span_Sub M0 ⟨F y, F y⟩ ⟨F x, F x⟩) (span_Mul M0 (span_Sqrt M0 (span_Of M0 u)) (span_Sub M0 (span_Of M0 4607182418800017408) (span_Of M0 v)))) (span_Mul M0 (span_Sub M0 ⟨F z, F z⟩ ⟨F x, F x⟩) (span_Mul M0 (span_Sqrt M0 (span_Of M0 u)) (span_Of M0 v))))) (Rv x + ((Rv y - Rv x) * (r * (1 - Rv sv)) + (Rv z - Rv x) * (r * Rv sv))) := fun hx hy hz =>
            add_hs (hs_one hx) (add_hs (mul_hs (sub_hs (hs_one hy) (hs_one hx)) hsec) (mul_hs (sub_hs (hs_one hz) (hs_one hx)) hthi))
          have bx0 := box_dir na0 nb0 nc0 r0 r1 hv0 hv1 (dir na0 nb0 nc0)
          have bx1 := box_dir na1 nb1 nc1 r0 r1 hv0 hv1 (dir na1 nb1 nc1)
          have bx2 := box_dir na2 nb2 nc2 r0 r1 hv0 hv1 (dir na2 nb2 nc2)
          have svs : ∀ {x : Int}, nm x → SVs ⟨F x, F x⟩ := fun n => ⟨_, _, SV.mk' rfl rfl n n (Int.le_refl _)⟩
          have p0 : SV3 ⟨⟨F a0, F a0⟩, ⟨F a1, F a1⟩, ⟨F a2, F a2⟩⟩ := ⟨svs na0, svs na1, svs na2⟩
          have p1 : SV3 ⟨⟨F b0, F b0⟩, ⟨F b1, F b1⟩, ⟨F b2, F b2⟩⟩ := ⟨svs nb0, svs nb1, svs nb2⟩
          have p2 : SV3 ⟨⟨F c0, F c0⟩, ⟨F c1, F c1⟩, ⟨F c2, F c2⟩⟩ := ⟨svs nc0, svs nc1, svs nc2⟩
          have ob : shape_Bounds.ok M0 ⟨1, ⟨⟨⟨F a0, F a0⟩, ⟨F a1, F a1⟩, ⟨F a2, F a2⟩⟩, ⟨⟨F b0, F b0⟩, ⟨F b1, F b1⟩, ⟨F b2, F b2⟩⟩, ⟨⟨F c0, F c0⟩, ⟨F c1, F c1⟩, ⟨F c2, F c2⟩⟩⟩, ⟨0, 0⟩⟩ = true := rfl
          have os : shape_Spread.ok M0 ⟨1, ⟨⟨⟨F a0, F a0⟩, ⟨F a1, F a1⟩, ⟨F a2, F a2⟩⟩, ⟨⟨F b0, F b0⟩, ⟨F b1, F b1⟩, ⟨F b2, F b2⟩⟩, ⟨⟨F c0, F c0⟩, ⟨F c1, F c1⟩, ⟨F c2, F c2⟩⟩⟩, ⟨0, 0⟩⟩ u v = true := spread_ok ou ov hou.sv hov.sv p0 p1 p2
          rw [ob, os]
          refine ⟨?_, rfl⟩
          obtain ⟨l0, m0, q0, x1, x2, x3, x4, x5, x6, x7, x8⟩ := bx0
          obtain ⟨l1, m1, q1, y1, y2, y3, y4, y5, y6, y7, y8⟩ := bx1
          obtain ⟨l2, m2, q2, z1, z2, z3, z4, z5, z6, z7, z8⟩ := bx2
          have eb : shape_Bounds M0 ⟨1, ⟨⟨⟨F a0, F a0⟩, ⟨F a1, F a1⟩, ⟨F a2, F a2⟩⟩, ⟨⟨F b0, F b0⟩, ⟨F b1, F b1⟩, ⟨F b2, F b2⟩⟩, ⟨⟨F c0, F c0⟩, ⟨F c1, F c1⟩, ⟨F c2, F c2⟩⟩⟩, ⟨0, 0⟩⟩ = ⟨⟨F l0, F l1, F l2⟩, ⟨F m0, F m1, F m2⟩⟩ := by
            unfold shape_Bounds
            dsimp only
            rw [q0, q1, q2]
            rfl
          rw [eb]
          generalize hsp : shape_Spread M0 ⟨1, ⟨⟨⟨F a0, F a0⟩, ⟨F a1, F a1⟩, ⟨F a2, F a2⟩⟩, ⟨⟨F b0, F b0⟩, ⟨F b1, F b1⟩, ⟨F b2, F b2⟩⟩, ⟨⟨F c0, F c0⟩, ⟨F c1, F c1⟩, ⟨F c2, F c2⟩⟩⟩, ⟨0, 0⟩⟩ u v = sp
          have s0 : sp.p0 = span_Add M0 ⟨F a0, F a0⟩ (span_Add M0 (span_Mul M0 (span_Sub M0 ⟨F b0, F b0⟩ ⟨F a0, F a0⟩) (span_Mul M0 (span_Sqrt M0 (span_Of M0 u)) (span_Sub M0 (span_Of M0 4607182418800017408) (span_Of M0 v)))) (span_Mul M0 (span_Sub M0 ⟨F c0, F c0⟩ ⟨F a0, F a0⟩) (span_Mul M0 (span_Sqrt M0 (span_Of M0 u)) (span_Of M0 v)))) := by rw [← hsp]; rfl
          have s1 : sp.p1 = span_Add M0 ⟨F a1, F a1⟩ (span_Add M0 (span_Mul M0 (span_Sub M0 ⟨F b1, F b1⟩ ⟨F a1, F a1⟩) (span_Mul M0 (span_Sqrt M0 (span_Of M0 u)) (span_Sub M0 (span_Of M0 4607182418800017408) (span_Of M0 v)))) (span_Mul M0 (span_Sub M0 ⟨F c1, F c1⟩ ⟨F a1, F a1⟩) (span_Mul M0 (span_Sqrt M0 (span_Of M0 u)) (span_Of M0 v)))) := by rw [← hsp]; rfl
          have s2 : sp.p2 = span_Add M0 ⟨F a2, F a2⟩ (span_Add M0 (span_Mul M0 (span_Sub M0 ⟨F b2, F b2⟩ ⟨F a2, F a2⟩) (span_Mul M0 (span_Sqrt M0 (span_Of M0 u)) (span_Sub M0 (span_Of M0 4607182418800017408) (span_Of M0 v)))) (span_Mul M0 (span_Sub M0 ⟨F c2, F c2⟩ ⟨F a2, F a2⟩) (span_Mul M0 (span_Sqrt M0 (span_Of M0 u)) (span_Of M0 v)))) := by rw [← hsp]; rfl
          rw [← s0] at x7 x8
          rw [← s1] at y7 y8
          rw [← s2] at z7 z8
          dsimp only
          rw [x1, x2, x3, x4, x5, x6, x7, x8, y1, y2, y3, y4, y5, y6, y7, y8, z1, z2, z3, z4, z5, z6, z7, z8]
          rfl

end Go.Lan
