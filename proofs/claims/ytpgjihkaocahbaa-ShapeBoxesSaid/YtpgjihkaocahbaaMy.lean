/- Shapes within shapes: ShapeNests. -/
import Derived.Test.YtpgjihkaocahbaaMx
namespace Go.Lan

attribute [local irreducible] B

theorem edges_ni {s s' : LShape} (h0 : NI3 s.p.p0 s'.p.p0) (h1 : NI3 s.p.p1 s'.p.p1) (h2 : NI3 s.p.p2 s'.p.p2) : NI3 (shape_edges M0 s).1 (shape_edges M0 s').1 ∧ NI3 (shape_edges M0 s).2 (shape_edges M0 s').2 := ⟨vsub_ni h1 h0, vsub_ni h2 h0⟩
theorem edges_ok {s : LShape} (h0 : SV3 s.p.p0) (h1 : SV3 s.p.p1) (h2 : SV3 s.p.p2) : shape_edges.ok M0 s = true := by
  unfold shape_edges.ok
  rw [vsub_ok h1 h0, vsub_ok h2 h0]; rfl

/-! ### Answers -/
/-- An answer that stays. -/
def An (n w : Int) : Prop := (w = 0 ∨ w = 1 ∨ w = 2) ∧ (w ≠ 2 → n = w) ∧ (n = 0 ∨ n = 1 ∨ n = 2)
theorem pos_an {a a' : LSpan} (h : NI a a') : An (span_Positive M0 a) (span_Positive M0 a') := by
  have v : ∀ b, SVs b → span_Positive M0 b = 0 ∨ span_Positive M0 b = 1 ∨ span_Positive M0 b = 2 := fun b ⟨l, h, s⟩ => by
    rw [pos_sv s]; split
    · simp
    · split <;> simp
  exact ⟨v _ h.right, pos_ni h, v _ h.left⟩
theorem least_an {a a' : LSpan} (h : NI a a') : An (shape_atLeast M0 a) (shape_atLeast M0 a') := by
  have v : ∀ b, SVs b → shape_atLeast M0 b = 0 ∨ shape_atLeast M0 b = 1 ∨ shape_atLeast M0 b = 2 := fun b ⟨l, h, s⟩ => by
    rw [least_sv s]; split
    · simp
    · split <;> simp
  exact ⟨v _ h.right, least_ni h, v _ h.left⟩

def v3 (a : Int) : Prop := a = 0 ∨ a = 1 ∨ a = 2
theorem all4_eq {a b c d : Int} : shape_all_s4 M0 a b c d = if a = 0 ∨ b = 0 ∨ c = 0 ∨ d = 0 then 0 else if a = 1 ∧ b = 1 ∧ c = 1 ∧ d = 1 then 1 else 2 := by
  have e0 : ∀ x : Int, (x == 0) = decide (x = 0) := fun x => by rw [Bool.eq_iff_iff]; simp
  have e1 : ∀ x : Int, (x != 1) = !decide (x = 1) := fun x => by rw [Bool.eq_iff_iff]; simp
  unfold shape_all_s4
  simp only [e0, e1]
  by_cases a0 : a = 0
  · simp [a0]
  by_cases b0 : b = 0
  · simp [a0, b0]
  by_cases c0 : c = 0
  · simp [a0, b0, c0]
  by_cases d0 : d = 0
  · simp [a0, b0, c0, d0]
  by_cases a1 : a = 1 <;> by_cases b1 : b = 1 <;> by_cases c1 : c = 1 <;> by_cases d1 : d = 1 <;> simp [a0, b0, c0, d0, a1, b1, c1, d1]
theorem all2_eq {a b : Int} : shape_all_s2 M0 a b = if a = 0 ∨ b = 0 then 0 else if a = 1 ∧ b = 1 then 1 else 2 := by
  have e0 : ∀ x : Int, (x == 0) = decide (x = 0) := fun x => by rw [Bool.eq_iff_iff]; simp
  have e1 : ∀ x : Int, (x != 1) = !decide (x = 1) := fun x => by rw [Bool.eq_iff_iff]; simp
  unfold shape_all_s2
  simp only [e0, e1]
  by_cases a0 : a = 0
  · simp [a0]
  by_cases b0 : b = 0
  · simp [a0, b0]
  by_cases a1 : a = 1 <;> by_cases b1 : b = 1 <;> simp [a0, b0, a1, b1]

theorem all4_an {a b c d a' b' c' d' : Int} (ha : An a a') (hb : An b b') (hc : An c c') (hd : An d d') : An (shape_all_s4 M0 a b c d) (shape_all_s4 M0 a' b' c' d') := by
  unfold An at *
  rw [all4_eq, all4_eq]
  refine ⟨?_, ?_, ?_⟩
  · split
    · simp
    · split <;> simp
  · split
    · intro _
      rw [if_pos (by omega)]
    · split
      · intro _
        rw [if_neg (by omega), if_pos (by omega)]
      · intro h; exact absurd rfl h
  · split
    · simp
    · split <;> simp
theorem all2_an {a b a' b' : Int} (ha : An a a') (hb : An b b') : An (shape_all_s2 M0 a b) (shape_all_s2 M0 a' b') := by
  unfold An at *
  rw [all2_eq, all2_eq]
  refine ⟨?_, ?_, ?_⟩
  · split
    · simp
    · split <;> simp
  · split
    · intro _
      rw [if_pos (by omega)]
    · split
      · intro _
        rw [if_neg (by omega), if_pos (by omega)]
      · intro h; exact absurd rfl h
  · split
    · simp
    · split <;> simp

/-! ### Hits -/
/-- The hit n is that of something within. -/
def HN (n w : LHit) : Prop := w.answer ≠ 2 → n.answer = w.answer ∧ NI n.t w.t ∧ NI n.u w.u ∧ NI n.v w.v
theorem hn_no (n w : Int) (h : w ≠ 2 → n = w) : HN ⟨n, ⟨0, 0⟩, ⟨0, 0⟩, ⟨0, 0⟩⟩ ⟨w, ⟨0, 0⟩, ⟨0, 0⟩, ⟨0, 0⟩⟩ := fun hw => ⟨h hw, ni_zero, ni_zero, ni_zero⟩

theorem side_eq {d : LSpan} {l h : Int} (s : SV d l h) : shape_side M0 d = if 0 < l then (4607182418800017408, 1) else if h < 0 then (13830554455654793216, 1) else if l = 0 ∧ h = 0 then (0, 0) else (0, 2) := by
  have z := isZ_sv s
  unfold isZ at z
  unfold shape_side
  rw [pos_sv s, pos_sv (neg_sv s), z]
  have hle := s.le
  by_cases h1 : 0 < l
  · rw [if_pos h1, if_pos h1]; rfl
  · rw [if_neg h1, if_neg h1]
    by_cases h2 : h < 0
    · rw [if_pos h2, if_pos (show (0 : Int) < -h by omega), if_pos (show h ≤ 0 by omega)]; rfl
    · rw [if_neg h2, if_neg (show ¬ (0 : Int) < -h by omega)]
      by_cases h3 : l = 0 ∧ h = 0
      · rw [if_pos h3, decide_eq_true h3, if_pos (show h ≤ 0 by omega), if_pos (show -l ≤ 0 by omega)]; rfl
      · rw [if_neg h3, decide_eq_false h3]
        split <;> split <;> rfl

theorem of_one : SVs (span_Of M0 4607182418800017408) := by
  have hI := I_eq
  have e : span_Of M0 4607182418800017408 = ⟨4607182418800017408, 4607182418800017408⟩ := by kernel_rfl
  have f : F ((4607182418800017408 : Nat) : Int) = 4607182418800017408 := F_nat _
  rw [e]
  exact ⟨_, _, f.symm, f.symm, Int.le_refl _, by omega, by omega, by omega, by omega⟩
theorem of_mone : SVs (span_Of M0 13830554455654793216) := by
  have hI := I_eq
  have e : span_Of M0 13830554455654793216 = ⟨13830554455654793216, 13830554455654793216⟩ := by kernel_rfl
  have f : F (-((4607182418800017408 : Nat) : Int)) = 13830554455654793216 := by decide
  rw [e]
  exact ⟨_, _, f.symm, f.symm, Int.le_refl _, by omega, by omega, by omega, by omega⟩
theorem of_mtwo : SVs (span_Of M0 13835058055282163712) := by
  have hI := I_eq
  have e : span_Of M0 13835058055282163712 = ⟨13835058055282163712, 13835058055282163712⟩ := by kernel_rfl
  have f : F (-((4611686018427387904 : Nat) : Int)) = 13835058055282163712 := by decide
  rw [e]
  exact ⟨_, _, f.symm, f.symm, Int.le_refl _, by omega, by omega, by omega, by omega⟩
theorem ofok_wd {x : Nat} {s : Int} (h : At x s) : span_Of.ok M0 x = true := by
  unfold span_Of.ok
  obtain ⟨n, r, h1, rfl, rfl⟩ := h
  rw [numberok_wd h1]; rfl
theorem side_at {d : LSpan} (h : SVs d) : span_Of.ok M0 (shape_side M0 d).1 = true ∧ ((shape_side M0 d).2 = 1 → SVs (span_Of M0 (shape_side M0 d).1)) := by
  obtain ⟨l, h, s⟩ := h
  rw [side_eq s]
  split
  · exact ⟨by kernel_rfl, fun _ => of_one⟩
  · split
    · exact ⟨by kernel_rfl, fun _ => of_mone⟩
    · split
      · exact ⟨by kernel_rfl, fun h => by cases h⟩
      · exact ⟨by kernel_rfl, fun h => by cases h⟩
theorem side_ni {d d' : LSpan} (h : NI d d') : (shape_side M0 d').2 ≠ 2 → shape_side M0 d = shape_side M0 d' := by
  obtain ⟨l, h, l', h', s, s', a1, a2⟩ := h
  rw [side_eq s, side_eq s']
  have := s.le
  intro hq
  by_cases c1 : 0 < l'
  · rw [if_pos c1, if_pos (by omega)]
  · rw [if_neg c1] at hq ⊢
    by_cases c2 : h' < 0
    · rw [if_pos c2, if_neg (by omega), if_pos (by omega)]
    · rw [if_neg c2] at hq ⊢
      by_cases c3 : l' = 0 ∧ h' = 0
      · rw [if_pos c3, if_neg (by omega), if_neg (by omega), if_pos (by omega)]
      · rw [if_neg c3] at hq; exact absurd rfl hq

/-! ### Shapes and rays -/
structure NShape (s s' : LShape) : Prop where
  kind : s.kind = s'.kind
  p0 : NI3 s.p.p0 s'.p.p0
  p1 : NI3 s.p.p1 s'.p.p1
  p2 : NI3 s.p.p2 s'.p.p2
  r : NI s.r s'.r
structure NRay (r r' : LRay) : Prop where
  o : NI3 r.o r'.o
  d : NI3 r.d r'.d
structure SShape (s : LShape) : Prop where
  p0 : SV3 s.p.p0
  p1 : SV3 s.p.p1
  p2 : SV3 s.p.p2
  r : SVs s.r
structure SRay (r : LRay) : Prop where
  o : SV3 r.o
  d : SV3 r.d
theorem NShape.left {s s' : LShape} (h : NShape s s') : SShape s := ⟨h.p0.left, h.p1.left, h.p2.left, h.r.left⟩
theorem NShape.refl {s : LShape} (h : SShape s) : NShape s s := ⟨rfl, .refl h.p0, .refl h.p1, .refl h.p2, .refl h.r⟩
theorem NRay.left {s s' : LRay} (h : NRay s s') : SRay s := ⟨h.o.left, h.d.left⟩
theorem NRay.refl {r : LRay} (h : SRay r) : NRay r r := ⟨.refl h.o, .refl h.d⟩

theorem tri_ni {s s' : LShape} {r r' : LRay} (hs : NShape s s') (hr : NRay r r') : HN (shape_triangle M0 s r) (shape_triangle M0 s' r') := by
  obtain ⟨e1, e2⟩ := edges_ni hs.p0 hs.p1 hs.p2
  have hp := vcross_ni hr.d e2
  have hdet := vdot_ni e1 hp
  have ho := vsub_ni hr.o hs.p0
  have hq := vcross_ni ho e1
  have hsd := side_ni hdet
  have hsa := side_at hdet.right
  unfold shape_triangle
  dsimp only
  by_cases c : (shape_side M0 (vec_Dot M0 (shape_edges M0 s').1 (vec_Cross M0 r'.d (shape_edges M0 s').2))).2 = 2
  · have e : ((2 : Int) != 1) = true := rfl
    intro hw
    rw [c, e] at hw
    exact absurd rfl hw
  · rw [hsd c]
    by_cases c1 : (shape_side M0 (vec_Dot M0 (shape_edges M0 s').1 (vec_Cross M0 r'.d (shape_edges M0 s').2))).2 = 1
    · have e : ((1 : Int) != 1) = false := rfl
      have k := NI.refl (hsa.2 c1)
      rw [c1, e, cond_false, cond_false]
      have n9 := mul_ni hdet k
      have n11 := mul_ni (vdot_ni ho hp) k
      have n13 := mul_ni (vdot_ni hr.d hq) k
      have n15 := mul_ni (vdot_ni e2 hq) k
      have han := all4_an (least_an n11) (least_an n13) (least_an (sub_ni n9 (add_ni n11 n13))) (pos_an n15)
      obtain ⟨v1, v2, v3⟩ := han
      intro hw
      by_cases c2 : shape_all_s4 M0 (shape_atLeast M0 (span_Mul M0 (vec_Dot M0 (vec_Sub M0 r'.o s'.p.p0) (vec_Cross M0 r'.d (shape_edges M0 s').2)) (span_Of M0 (shape_side M0 (vec_Dot M0 (shape_edges M0 s').1 (vec_Cross M0 r'.d (shape_edges M0 s').2))).1))) (shape_atLeast M0 (span_Mul M0 (vec_Dot M0 r'.d (vec_Cross M0 (vec_Sub M0 r'.o s'.p.p0) (shape_edges M0 s').1)) (span_Of M0 (shape_side M0 (vec_Dot M0 (shape_edges M0 s').1 (vec_Cross M0 r'.d (shape_edges M0 s').2))).1))) (shape_atLeast M0 (span_Sub M0 (span_Mul M0 (vec_Dot M0 (shape_edges M0 s').1 (vec_Cross M0 r'.d (shape_edges M0 s').2)) (span_Of M0 (shape_side M0 (vec_Dot M0 (shape_edges M0 s').1 (vec_Cross M0 r'.d (shape_edges M0 s').2))).1)) (span_Add M0 (span_Mul M0 (vec_Dot M0 (vec_Sub M0 r'.o s'.p.p0) (vec_Cross M0 r'.d (shape_edges M0 s').2)) (span_Of M0 (shape_side M0 (vec_Dot M0 (shape_edges M0 s').1 (vec_Cross M0 r'.d (shape_edges M0 s').2))).1)) (span_Mul M0 (vec_Dot M0 r'.d (vec_Cross M0 (vec_Sub M0 r'.o s'.p.p0) (shape_edges M0 s').1)) (span_Of M0 (shape_side M0 (vec_Dot M0 (shape_edges M0 s').1 (vec_Cross M0 r'.d (shape_edges M0 s').2))).1))))) (span_Positive M0 (span_Mul M0 (vec_Dot M0 (shape_edges M0 s').2 (vec_Cross M0 (vec_Sub M0 r'.o s'.p.p0) (shape_edges M0 s').1)) (span_Of M0 (shape_side M0 (vec_Dot M0 (shape_edges M0 s').1 (vec_Cross M0 r'.d (shape_edges M0 s').2))).1))) = 1
      · rw [c2] at v2 ⊢
        rw [v2 (by decide), e, cond_false, cond_false]
        exact ⟨rfl, div_ni n15 n9, div_ni n11 n9, div_ni n13 n9⟩
      · have e2' : ∀ x : Int, x ≠ 1 → (x != 1) = true := fun x hx => by rw [bne_iff_ne]; exact hx
        rw [e2' _ c2, cond_true] at hw ⊢
        have h3 := v2 hw
        rw [h3, e2' _ c2, cond_true]
        exact ⟨rfl, ni_zero, ni_zero, ni_zero⟩
    · have e2' : ∀ x : Int, x ≠ 1 → (x != 1) = true := fun x hx => by rw [bne_iff_ne]; exact hx
      rw [e2' _ c1, cond_true, cond_true]
      exact hn_no _ _ fun _ => rfl

end Go.Lan
