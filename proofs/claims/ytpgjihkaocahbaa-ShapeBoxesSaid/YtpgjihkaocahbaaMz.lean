/- ShapeNests. -/
import Derived.Test.YtpgjihkaocahbaaMy
namespace Go.Lan

attribute [local irreducible] B

theorem bne_of {x y : Int} (h : x ≠ y) : (x != y) = true := by rw [bne_iff_ne]; exact h
theorem bne_not {x y : Int} (h : x = y) : (x != y) = false := by rw [bne_eq_false_iff_eq]; exact h
theorem beq_of {x y : Int} (h : x = y) : (x == y) = true := by rw [beq_iff_eq]; exact h
theorem beq_not {x y : Int} (h : x ≠ y) : (x == y) = false := by rw [beq_eq_false_iff_ne]; exact h

theorem cond_same (b : Bool) : cond b true true = true := by cases b <;> rfl

theorem quad_ni {s s' : LShape} {r r' : LRay} (hs : NShape s s') (hr : NRay r r') : NI (shape_quad M0 s r).1 (shape_quad M0 s' r').1 ∧ NI (shape_quad M0 s r).2.1 (shape_quad M0 s' r').2.1 ∧ NI (shape_quad M0 s r).2.2 (shape_quad M0 s' r').2.2 := by
  have ho := vsub_ni hr.o hs.p0
  exact ⟨vsqr_ni hr.d, vdot_ni ho hr.d, sub_ni (vsqr_ni ho) (sqr_ni hs.r)⟩

theorem hit_hn {n w : Int} {t t' : LSpan} (h : w ≠ 2 → n = w) (ht : NI t t') : HN (shape_hit M0 n t) (shape_hit M0 w t') := by
  unfold shape_hit
  intro hw
  by_cases c : w = 1
  · rw [bne_not c, cond_false] at hw ⊢
    rw [bne_not (x := n) (by rw [h (by omega)]; exact c), cond_false]
    exact ⟨rfl, ht, ni_zero, ni_zero⟩
  · rw [bne_of c, cond_true] at hw ⊢
    dsimp only at hw
    rw [bne_of (x := n) (by rw [h hw]; exact c), cond_true]
    exact ⟨h hw, ni_zero, ni_zero, ni_zero⟩

theorem least_one {a : LSpan} (h : SVs a) (h1 : shape_atLeast M0 a = 1) : M0.lt a.hi 0 = false := by
  obtain ⟨l, h, s⟩ := h
  rw [least_sv s] at h1
  have := s.le
  rw [s.hi, F_lt0 s.ph]
  refine decide_eq_false fun h2 => ?_
  rw [if_pos h2] at h1
  cases h1

theorem sphere_ni {s s' : LShape} {r r' : LRay} (hs : NShape s s') (hr : NRay r r') : HN (shape_sphere M0 s r) (shape_sphere M0 s' r') := by
  obtain ⟨ha, hb, hc⟩ := quad_ni hs hr
  unfold shape_sphere
  dsimp only
  generalize (shape_quad M0 s r).1 = a at *
  generalize (shape_quad M0 s r).2.1 = b at *
  generalize (shape_quad M0 s r).2.2 = c at *
  generalize (shape_quad M0 s' r').1 = a' at *
  generalize (shape_quad M0 s' r').2.1 = b' at *
  generalize (shape_quad M0 s' r').2.2 = c' at *
  have hd := sub_ni (sqr_ni hb) (mul_ni ha hc)
  generalize span_Sub M0 (span_Sqr M0 b) (span_Mul M0 a c) = d at *
  generalize span_Sub M0 (span_Sqr M0 b') (span_Mul M0 a' c') = d' at *
  have hin := all2_an (pos_an ha) (least_an hd)
  have hl1 : shape_all_s2 M0 (span_Positive M0 a) (shape_atLeast M0 d) = 1 → shape_atLeast M0 d = 1 := by
    rw [all2_eq]
    intro h
    split at h
    · cases h
    · split at h
      · omega
      · cases h
  generalize shape_all_s2 M0 (span_Positive M0 a) (shape_atLeast M0 d) = i at *
  generalize shape_all_s2 M0 (span_Positive M0 a') (shape_atLeast M0 d') = i' at *
  intro hw
  by_cases c1 : i' = 1
  · have ci : i = 1 := by rw [hin.2.1 (by omega)]; exact c1
    rw [bne_not c1, cond_false] at hw ⊢
    rw [bne_not ci, cond_false]
    have hroot := sqrt_ni hd (least_one hd.left (hl1 ci))
    have hnear := div_ni (sub_ni (neg_ni hb) hroot) ha
    have hfar := div_ni (add_ni (neg_ni hb) hroot) ha
    generalize span_Div M0 (span_Sub M0 (span_Neg M0 b) (span_Sqrt M0 d)) a = t at *
    generalize span_Div M0 (span_Sub M0 (span_Neg M0 b') (span_Sqrt M0 d')) a' = t' at *
    have hp := pos_an hnear
    by_cases c2 : span_Positive M0 t' = 0
    · rw [bne_not c2, cond_false] at hw ⊢
      rw [bne_not (x := span_Positive M0 t) (by rw [hp.2.1 (by omega)]; exact c2), cond_false]
      exact hit_hn (pos_an hfar).2.1 hfar hw
    · rw [bne_of c2, cond_true] at hw ⊢
      have : span_Positive M0 t' ≠ 2 := by
        intro h2
        rw [h2] at hw
        exact hw rfl
      rw [bne_of (x := span_Positive M0 t) (by rw [hp.2.1 this]; exact c2), cond_true]
      exact hit_hn hp.2.1 hnear hw
  · rw [bne_of c1, cond_true] at hw ⊢
    dsimp only at hw
    have hi := hin.2.1 hw
    rw [bne_of (x := i) (by rw [hi]; exact c1), cond_true]
    exact ⟨hi, ni_zero, ni_zero, ni_zero⟩

theorem meet_ni {s s' : LShape} {r r' : LRay} (hs : NShape s s') (hr : NRay r r') : HN (shape_Meet M0 s r) (shape_Meet M0 s' r') := by
  unfold shape_Meet
  rw [hs.kind]
  cases (s'.kind == 1)
  · rw [cond_false, cond_false]
    cases (s'.kind == 2)
    · exact hn_no _ _ fun _ => rfl
    · exact sphere_ni hs hr
  · exact tri_ni hs hr
theorem leave_ni {s s' : LShape} {r r' : LRay} (hs : NShape s s') (hr : NRay r r') : HN (shape_Leave M0 s r) (shape_Leave M0 s' r') := by
  obtain ⟨ha, hb, hc⟩ := quad_ni hs hr
  unfold shape_Leave
  rw [hs.kind]
  dsimp only
  generalize (shape_quad M0 s r).1 = a at *
  generalize (shape_quad M0 s r).2.1 = b at *
  generalize (shape_quad M0 s' r').1 = a' at *
  generalize (shape_quad M0 s' r').2.1 = b' at *
  cases (s'.kind != 2)
  · rw [cond_false, cond_false]
    have hp := pos_an ha
    intro hw
    by_cases c1 : span_Positive M0 a' = 1
    · rw [bne_not c1, cond_false] at hw ⊢
      rw [bne_not (x := span_Positive M0 a) (by rw [hp.2.1 (by omega)]; exact c1), cond_false]
      have ht := div_ni (mul_ni (NI.refl of_mtwo) hb) ha
      exact hit_hn (pos_an ht).2.1 ht hw
    · rw [bne_of c1, cond_true] at hw ⊢
      dsimp only at hw
      have hi := hp.2.1 hw
      rw [bne_of (x := span_Positive M0 a) (by rw [hi]; exact c1), cond_true]
      exact ⟨hi, ni_zero, ni_zero, ni_zero⟩
  · exact hn_no _ _ fun _ => rfl

/-! ### They never panic -/
theorem quad_sv {s : LShape} {r : LRay} (hs : SShape s) (hr : SRay r) : (SVs (shape_quad M0 s r).1 ∧ SVs (shape_quad M0 s r).2.1 ∧ SVs (shape_quad M0 s r).2.2) ∧ shape_quad.ok M0 s r = true := by
  obtain ⟨ha, hb, hc⟩ := quad_ni (NShape.refl hs) (NRay.refl hr)
  refine ⟨⟨ha.left, hb.left, hc.left⟩, ?_⟩
  have ho := (vsub_ni (NI3.refl hr.o) (NI3.refl hs.p0)).left
  unfold shape_quad.ok
  dsimp only
  rw [vsub_ok hr.o hs.p0, vsqr_ok hr.d, vdot_ok ho hr.d, vsqr_ok ho, sqr_ok hs.r, sub_ok (vsqr_ni (NI3.refl ho)).left (svs_sqr hs.r)]
  rfl
theorem sphere_ok {s : LShape} {r : LRay} (hs : SShape s) (hr : SRay r) : shape_sphere.ok M0 s r = true := by
  obtain ⟨⟨ha, hb, hc⟩, o⟩ := quad_sv hs hr
  unfold shape_sphere.ok
  dsimp only
  rw [o, cond_true]
  generalize (shape_quad M0 s r).1 = a at *
  generalize (shape_quad M0 s r).2.1 = b at *
  generalize (shape_quad M0 s r).2.2 = c at *
  have hd := svs_sub (svs_sqr hb) (svs_mul ha hc)
  rw [sqr_ok hb, mul_ok ha hc, sub_ok (svs_sqr hb) (svs_mul ha hc)]
  simp only [cond_true]
  generalize span_Sub M0 (span_Sqr M0 b) (span_Mul M0 a c) = d at *
  have hr := svs_sqrt hd
  rw [sqrt_ok hd, sub_ok (svs_neg hb) hr, div_ok (svs_sub (svs_neg hb) hr) ha, add_ok (svs_neg hb) hr, div_ok (NI.svs_add (svs_neg hb) hr) ha]
  cases (shape_all_s2 M0 (span_Positive M0 a) (shape_atLeast M0 d) != 1)
  · simp only [cond_false, cond_true]
    cases (span_Positive M0 (span_Div M0 (span_Sub M0 (span_Neg M0 b) (span_Sqrt M0 d)) a) != 0) <;> rfl
  · rfl
theorem tri_ok {s : LShape} {r : LRay} (hs : SShape s) (hr : SRay r) : shape_triangle.ok M0 s r = true := by
  obtain ⟨e1, e2⟩ := edges_ni (NI3.refl hs.p0) (NI3.refl hs.p1) (NI3.refl hs.p2)
  have e1 := e1.left
  have e2 := e2.left
  have hp := (vcross_ni (NI3.refl hr.d) (NI3.refl e2)).left
  have hdet := (vdot_ni (NI3.refl e1) (NI3.refl hp)).left
  have ho := (vsub_ni (NI3.refl hr.o) (NI3.refl hs.p0)).left
  have hq := (vcross_ni (NI3.refl ho) (NI3.refl e1)).left
  obtain ⟨s1, s2⟩ := side_at hdet
  unfold shape_triangle.ok
  dsimp only
  rw [edges_ok hs.p0 hs.p1 hs.p2, vcross_ok hr.d e2, vdot_ok e1 hp]
  simp only [cond_true]
  by_cases c1 : (shape_side M0 (vec_Dot M0 (shape_edges M0 s).1 (vec_Cross M0 r.d (shape_edges M0 s).2))).2 = 1
  · rw [bne_not c1, cond_false]
    have k := s2 c1
    have h1 := (vdot_ni (NI3.refl ho) (NI3.refl hp)).left
    have h2 := (vdot_ni (NI3.refl hr.d) (NI3.refl hq)).left
    have h3 := (vdot_ni (NI3.refl e2) (NI3.refl hq)).left
    rw [vsub_ok hr.o hs.p0, vcross_ok ho e1, s1, mul_ok hdet k, vdot_ok ho hp, mul_ok h1 k, vdot_ok hr.d hq, mul_ok h2 k, vdot_ok e2 hq, mul_ok h3 k, add_ok (svs_mul h1 k) (svs_mul h2 k), sub_ok (svs_mul hdet k) (NI.svs_add (svs_mul h1 k) (svs_mul h2 k)), div_ok (svs_mul h3 k) (svs_mul hdet k), div_ok (svs_mul h1 k) (svs_mul hdet k), div_ok (svs_mul h2 k) (svs_mul hdet k)]
    simp only [cond_true]
    exact cond_same _
  · rw [bne_of c1, cond_true]
theorem meet_ok {s : LShape} {r : LRay} (hs : SShape s) (hr : SRay r) : shape_Meet.ok M0 s r = true := by
  unfold shape_Meet.ok
  rw [tri_ok hs hr, sphere_ok hs hr]
  cases (s.kind == 1) <;> cases (s.kind == 2) <;> rfl
theorem leave_ok {s : LShape} {r : LRay} (hs : SShape s) (hr : SRay r) : shape_Leave.ok M0 s r = true := by
  obtain ⟨⟨ha, hb, hc⟩, o⟩ := quad_sv hs hr
  unfold shape_Leave.ok
  dsimp only
  have h1 : span_Of.ok M0 13835058055282163712 = true := by kernel_rfl
  rw [o, h1, mul_ok of_mtwo hb, div_ok (svs_mul of_mtwo hb) ha]
  cases (s.kind != 2)
  · cases (span_Positive M0 (shape_quad M0 s r).1 != 1) <;> rfl
  · rfl

/-! ### The statement -/
def WShape (s : LShape) : Prop := W6 s.p.p0 ∧ W6 s.p.p1 ∧ W6 s.p.p2 ∧ W2 s.r
def WRay (r : LRay) : Prop := W6 r.o ∧ W6 r.d

theorem validS {s : LShape} (hw : WShape s) : (lanternref10_Valid M0 s = true → SShape s) ∧ lanternref10_Valid.ok M0 s = true := by
  obtain ⟨v0, o0⟩ := valid3_sv hw.1
  obtain ⟨v1, o1⟩ := valid3_sv hw.2.1
  obtain ⟨v2, o2⟩ := valid3_sv hw.2.2.1
  obtain ⟨v3, o3⟩ := valid_sv hw.2.2.2
  unfold lanternref10_Valid lanternref10_Valid.ok
  rw [o0, o1, o2, o3]
  generalize (s.kind == 1) = k1
  generalize (s.kind == 2) = k2
  constructor
  · intro h
    cases h0 : lanternref03_Valid M0 s.p.p0 with
    | false => rw [h0] at h; cases k1 <;> cases k2 <;> cases h
    | true =>
      cases h1 : lanternref03_Valid M0 s.p.p1 with
      | false => rw [h0, h1] at h; cases k1 <;> cases k2 <;> cases h
      | true =>
        cases h2 : lanternref03_Valid M0 s.p.p2 with
        | false => rw [h0, h1, h2] at h; cases k1 <;> cases k2 <;> cases h
        | true =>
          rw [h0, h1, h2] at h
          refine ⟨v0 h0, v1 h1, v2 h2, v3 ?_⟩
          cases k1
          · cases k2
            · cases h
            · exact h
          · exact h
  · cases lanternref03_Valid M0 s.p.p0 <;> cases lanternref03_Valid M0 s.p.p1 <;> cases lanternref03_Valid M0 s.p.p2 <;> cases k1 <;> cases k2 <;> rfl
theorem validR {r : LRay} (hw : WRay r) : (lanternref10_ValidRay M0 r = true → SRay r) ∧ lanternref10_ValidRay.ok M0 r = true := by
  obtain ⟨v0, o0⟩ := valid3_sv hw.1
  obtain ⟨v1, o1⟩ := valid3_sv hw.2
  unfold lanternref10_ValidRay lanternref10_ValidRay.ok
  rw [o0, o1]
  constructor
  · intro h
    cases h0 : lanternref03_Valid M0 r.o with
    | false => rw [h0] at h; cases h
    | true => rw [h0] at h; exact ⟨v0 h0, v1 h⟩
  · cases lanternref03_Valid M0 r.o <;> rfl

theorem awake10 : lanternlaw10_Awake M0 = true := by kernel_rfl
theorem awakeok10 : lanternlaw10_Awake.ok M0 = true := by kernel_rfl

theorem within_ni {a b : LSpan} (h : NI a b) : lanternref02_Within M0 a b = true := by
  obtain ⟨l, h, m, k, s, t, h1, h2⟩ := h
  unfold lanternref02_Within
  rw [s.lo, s.hi, t.lo, t.hi, le_F t.pl s.pl, le_F s.ph t.ph, decide_eq_true h1, decide_eq_true h2]
  rfl

theorem nests_true {s : LShape} {r : LRay} {k : LA4A6F} (hs : WShape s) (hr : WRay r) : lanternlaw10_ShapeNests M0 s r k = true ∧ lanternlaw10_ShapeNests.ok M0 s r k = true := by
  obtain ⟨v1, o1⟩ := validS hs
  obtain ⟨v2, o2⟩ := validR hr
  unfold lanternlaw10_ShapeNests lanternlaw10_ShapeNests.ok
  rw [awake10, awakeok10, o1, o2]
  cases h1 : lanternref10_Valid M0 s with
  | false => exact ⟨rfl, rfl⟩
  | true =>
    cases h2 : lanternref10_ValidRay M0 r with
    | false => exact ⟨rfl, rfl⟩
    | true =>
      have S := v1 h1
      have R := v2 h2
      have ns : NShape (⟨s.kind, (⟨lanternlaw03_Inner3 M0 s.p.p0 k.p2, lanternlaw03_Inner3 M0 s.p.p1 k.p2, lanternlaw03_Inner3 M0 s.p.p2 k.p2⟩ : LA3V3), lanternlaw02_Inner M0 s.r k.p3.p0 k.p3.p1⟩ : LShape) s :=
        ⟨rfl, inner3_ni S.p0 _, inner3_ni S.p1 _, inner3_ni S.p2 _, inner_ni S.r _ _⟩
      have nr : NRay (⟨lanternlaw03_Inner3 M0 r.o k.p0, lanternlaw03_Inner3 M0 r.d k.p1⟩ : LRay) r := ⟨inner3_ni R.o _, inner3_ni R.d _⟩
      have m := meet_ni ns nr
      have l := leave_ni ns nr
      have ok1 := meet_ok S R
      have ok2 := meet_ok ns.left nr.left
      have ok3 := leave_ok S R
      have ok4 := leave_ok ns.left nr.left
      dsimp only
      rw [ok1, ok2, ok3, ok4]
      generalize shape_Meet M0 (⟨s.kind, (⟨lanternlaw03_Inner3 M0 s.p.p0 k.p2, lanternlaw03_Inner3 M0 s.p.p1 k.p2, lanternlaw03_Inner3 M0 s.p.p2 k.p2⟩ : LA3V3), lanternlaw02_Inner M0 s.r k.p3.p0 k.p3.p1⟩ : LShape) (⟨lanternlaw03_Inner3 M0 r.o k.p0, lanternlaw03_Inner3 M0 r.d k.p1⟩ : LRay) = n1 at *
      generalize shape_Leave M0 (⟨s.kind, (⟨lanternlaw03_Inner3 M0 s.p.p0 k.p2, lanternlaw03_Inner3 M0 s.p.p1 k.p2, lanternlaw03_Inner3 M0 s.p.p2 k.p2⟩ : LA3V3), lanternlaw02_Inner M0 s.r k.p3.p0 k.p3.p1⟩ : LShape) (⟨lanternlaw03_Inner3 M0 r.o k.p0, lanternlaw03_Inner3 M0 r.d k.p1⟩ : LRay) = n2 at *
      generalize shape_Meet M0 s r = w1 at *
      generalize shape_Leave M0 s r = w2 at *
      have leave : cond (w2.answer == 2) true (cond (n2.answer != w2.answer) false (cond (!(lanternref02_Within M0 n2.t w2.t)) false (cond (!(lanternref02_Within M0 n2.u w2.u)) false (cond (!(lanternref02_Within M0 n2.v w2.v)) false true)))) = true := by
        by_cases c : w2.answer = 2
        · rw [beq_of c]; rfl
        · obtain ⟨e, t, u, v⟩ := l c
          rw [beq_not c, bne_not e, within_ni t, within_ni u, within_ni v]; rfl
      by_cases c : w1.answer = 2
      · rw [beq_of c]
        exact ⟨leave, rfl⟩
      · obtain ⟨e, t, u, v⟩ := m c
        rw [beq_not c, bne_not e, within_ni t, within_ni u, within_ni v]
        exact ⟨leave, rfl⟩

end Go.Lan
