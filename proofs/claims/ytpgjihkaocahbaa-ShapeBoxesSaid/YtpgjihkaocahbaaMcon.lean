/- What spans hold: real sums, products, quotients of what is in the parts. -/
import Derived.Test.YtpgjihkaocahbaaMz
namespace Go.Lan

attribute [local irreducible] B C

/-- The number at a place. -/
def Rv (s : Int) : Rat := (Wi s : Rat) / (C : Rat)
theorem CR_pos : (0 : Rat) < (C : Rat) := by exact_mod_cast C_pos
theorem Rv_mul (s : Int) : Rv s * (C : Rat) = (Wi s : Rat) := by
  have := CR_pos
  unfold Rv
  exact Rat.div_mul_cancel (by grind)
theorem Rv_le {s t : Int} : Rv s ≤ Rv t ↔ s ≤ t := by
  have hC := CR_pos
  have h1 := Rv_mul s
  have h2 := Rv_mul t
  rw [← Wi_le]
  constructor
  · intro h
    have : (Wi s : Rat) ≤ (Wi t : Rat) := by
      rw [← h1, ← h2]
      exact Rat.mul_le_mul_of_nonneg_right h (Rat.le_of_lt hC)
    exact_mod_cast this
  · intro h
    have h3 : (Wi s : Rat) ≤ (Wi t : Rat) := by exact_mod_cast h
    rw [← h1, ← h2] at h3
    exact Rat.le_of_mul_le_mul_right h3 hC
theorem Rv_zero : Rv 0 = 0 := by
  unfold Rv
  rw [Wi_zero]
  grind
theorem Rv_neg (s : Int) : Rv (-s) = -(Rv s) := by
  unfold Rv
  rw [Wi_neg]
  push_cast
  grind

/-- The span holds the number. -/
def Hs (a : LSpan) (x : Rat) : Prop := ∃ l h, SV a l h ∧ (l = -(I : Int) ∨ Rv l ≤ x) ∧ (h = I ∨ x ≤ Rv h)
theorem Hs.sv {a : LSpan} {x : Rat} (h : Hs a x) : SVs a := by obtain ⟨l, h, s, _⟩ := h; exact ⟨l, h, s⟩
theorem hs_all (x : Rat) : Hs (span_All M0) x := ⟨_, _, all_sv, .inl rfl, .inl rfl⟩
theorem hs_lo {a : LSpan} {l h : Int} (s : SV a l h) : Hs a (Rv l) := ⟨l, h, s, .inr (Rat.le_refl), .inr (Rv_le.2 s.le)⟩
theorem hs_one {s : Int} (n : nm s) : Hs ⟨F s, F s⟩ (Rv s) := hs_lo (SV.mk' rfl rfl n n (Int.le_refl _))

theorem scale_le_iff {z S : Int} : ((z : Rat) / (C : Rat) ≤ (S : Rat) / (C : Rat)) ↔ z ≤ S := by
  have hC := CR_pos
  have h0 : (C : Rat) ≠ 0 := by grind
  have h1 : (z : Rat) / (C : Rat) * (C : Rat) = (z : Rat) := Rat.div_mul_cancel h0
  have h2 : (S : Rat) / (C : Rat) * (C : Rat) = (S : Rat) := Rat.div_mul_cancel h0
  constructor
  · intro h
    have : (z : Rat) ≤ (S : Rat) := by
      rw [← h1, ← h2]
      exact Rat.mul_le_mul_of_nonneg_right h (Rat.le_of_lt hC)
    exact_mod_cast this
  · intro h
    have h3 : (z : Rat) ≤ (S : Rat) := by exact_mod_cast h
    rw [← h1, ← h2] at h3
    exact Rat.le_of_mul_le_mul_right h3 hC

theorem add_pred {z a b : Int} : (z ≤ Wi a + Wi b ↔ (z : Rat) / (C : Rat) ≤ Rv a + Rv b) ∧ (Wi a + Wi b ≤ z ↔ Rv a + Rv b ≤ (z : Rat) / (C : Rat)) := by
  have e : Rv a + Rv b = ((Wi a + Wi b : Int) : Rat) / (C : Rat) := by
    unfold Rv
    push_cast
    grind
  rw [e, scale_le_iff, scale_le_iff]
  exact ⟨Iff.rfl, Iff.rfl⟩
theorem mul_pred {z x y : Int} : (MD x y z ↔ (z : Rat) / (C : Rat) ≤ (x : Rat) / (C : Rat) * ((y : Rat) / (C : Rat))) ∧ (MU x y z ↔ (x : Rat) / (C : Rat) * ((y : Rat) / (C : Rat)) ≤ (z : Rat) / (C : Rat)) := by
  have hC := CR_pos
  have h0 : (C : Rat) ≠ 0 := by grind
  have hCC : (0 : Rat) < (C : Rat) * (C : Rat) := Rat.mul_pos hC hC
  have e1 : (x : Rat) / (C : Rat) * ((y : Rat) / (C : Rat)) * ((C : Rat) * (C : Rat)) = ((x * y : Int) : Rat) := by
    push_cast
    grind
  have e2 : (z : Rat) / (C : Rat) * ((C : Rat) * (C : Rat)) = ((z * C : Int) : Rat) := by
    push_cast
    grind
  have key : ∀ a b : Rat, a ≤ b ↔ a * ((C : Rat) * (C : Rat)) ≤ b * ((C : Rat) * (C : Rat)) := fun a b => ⟨fun h => Rat.mul_le_mul_of_nonneg_right h (Rat.le_of_lt hCC), fun h => Rat.le_of_mul_le_mul_right h hCC⟩
  unfold MD MU
  rw [key _ ((x : Rat) / (C : Rat) * ((y : Rat) / (C : Rat))), key ((x : Rat) / (C : Rat) * ((y : Rat) / (C : Rat))) _, e1, e2, Rat.intCast_le_intCast, Rat.intCast_le_intCast]
  exact ⟨Iff.rfl, Iff.rfl⟩

theorem add_hs {a b : LSpan} {x y : Rat} (ha : Hs a x) (hb : Hs b y) : Hs (span_Add M0 a b) (x + y) := by
  obtain ⟨l, h, sa, a1, a2⟩ := ha
  obtain ⟨m, k, sb, b1, b2⟩ := hb
  obtain ⟨s, t, q, _, d1, d2, u1, u2⟩ := add_sv sa sb
  refine ⟨s, t, q, ?_, ?_⟩
  · by_cases c : nm l ∧ nm m
    · rcases (d1 c).at_ with h1 | h1
      · exact .inl h1
      · right
        have h2 := add_pred.1.1 h1
        have n1 : l ≠ -(I : Int) := sa.nl.1 c.1
        have n2 : m ≠ -(I : Int) := sb.nl.1 c.2
        have h3 : Rv l ≤ x := a1.resolve_left n1
        have h4 : Rv m ≤ y := b1.resolve_left n2
        have : Rv s ≤ Rv l + Rv m := h2
        grind
    · exact .inl (d2 c)
  · by_cases c : nm h ∧ nm k
    · rcases (u1 c).at_ with h1 | h1
      · exact .inl h1
      · right
        have h2 := add_pred.2.1 h1
        have n1 : h ≠ (I : Int) := sa.nh.1 c.1
        have n2 : k ≠ (I : Int) := sb.nh.1 c.2
        have h3 : x ≤ Rv h := a2.resolve_left n1
        have h4 : y ≤ Rv k := b2.resolve_left n2
        have : Rv h + Rv k ≤ Rv t := h2
        grind
    · exact .inl (u2 c)
theorem neg_hs {a : LSpan} {x : Rat} (ha : Hs a x) : Hs (span_Neg M0 a) (-x) := by
  obtain ⟨l, h, sa, a1, a2⟩ := ha
  refine ⟨-h, -l, neg_sv sa, ?_, ?_⟩
  · rcases a2 with h1 | h1
    · left; omega
    · right; rw [Rv_neg]; grind
  · rcases a1 with h1 | h1
    · left; omega
    · right; rw [Rv_neg]; grind
theorem sub_hs {a b : LSpan} {x y : Rat} (ha : Hs a x) (hb : Hs b y) : Hs (span_Sub M0 a b) (x - y) := by
  have := add_hs ha (neg_hs hb)
  have e : x + -y = x - y := by grind
  rw [e] at this
  exact this

/-- A product of two, by the corners. -/
theorem rcorner_lo {l h m k x y : Rat} (h1 : l ≤ x) (h2 : x ≤ h) (h3 : m ≤ y) (h4 : y ≤ k) : l * m ≤ x * y ∨ l * k ≤ x * y ∨ h * m ≤ x * y ∨ h * k ≤ x * y := by
  rcases Rat.le_total (a := 0) (b := y) with hy | hy
  · have e1 : l * y ≤ x * y := Rat.mul_le_mul_of_nonneg_right h1 hy
    rcases Rat.le_total (a := 0) (b := l) with hl | hl
    · have := Rat.mul_le_mul_of_nonneg_left h3 hl
      exact .inl (by grind)
    · have := Rat.mul_le_mul_of_nonneg_left h4 (show 0 ≤ -l by grind)
      exact .inr (.inl (by grind))
  · have e1 : x * -y ≤ h * -y := Rat.mul_le_mul_of_nonneg_right h2 (by grind)
    rcases Rat.le_total (a := 0) (b := h) with hl | hl
    · have := Rat.mul_le_mul_of_nonneg_left h3 hl
      exact .inr (.inr (.inl (by grind)))
    · have := Rat.mul_le_mul_of_nonneg_left h4 (show 0 ≤ -h by grind)
      exact .inr (.inr (.inr (by grind)))
theorem rcorner_hi {l h m k x y : Rat} (h1 : l ≤ x) (h2 : x ≤ h) (h3 : m ≤ y) (h4 : y ≤ k) : x * y ≤ l * m ∨ x * y ≤ l * k ∨ x * y ≤ h * m ∨ x * y ≤ h * k := by
  have := rcorner_lo (l := -h) (h := -l) (m := m) (k := k) (x := -x) (y := y) (by grind) (by grind) h3 h4
  rcases this with q | q | q | q
  · exact .inr (.inr (.inl (by grind)))
  · exact .inr (.inr (.inr (by grind)))
  · exact .inl (by grind)
  · exact .inr (.inl (by grind))

theorem mul_hs {a b : LSpan} {x y : Rat} (ha : Hs a x) (hb : Hs b y) : Hs (span_Mul M0 a b) (x * y) := by
  obtain ⟨l, h, sa, a1, a2⟩ := ha
  obtain ⟨m, k, sb, b1, b2⟩ := hb
  obtain ⟨s, t, q, _, z, w, f⟩ := mul_sv sa sb
  have hI := I_pos
  by_cases c : (l = 0 ∧ h = 0) ∨ (m = 0 ∧ k = 0)
  · obtain ⟨rfl, rfl⟩ := z c
    have e : x * y = 0 := by
      rcases c with ⟨rfl, rfl⟩ | ⟨rfl, rfl⟩
      · have h1 := a1.resolve_left (by omega)
        have h2 := a2.resolve_left (by omega)
        rw [Rv_zero] at h1 h2
        have : x = 0 := by grind
        rw [this]; grind
      · have h1 := b1.resolve_left (by omega)
        have h2 := b2.resolve_left (by omega)
        rw [Rv_zero] at h1 h2
        have : y = 0 := by grind
        rw [this]; grind
    rw [e]
    exact ⟨0, 0, q, .inr (by rw [Rv_zero]; grind), .inr (by rw [Rv_zero]; grind)⟩
  · by_cases n : (nm l ∧ nm h) ∧ (nm m ∧ nm k)
    · have F4 := f c n
      have h1 : Rv l ≤ x := a1.resolve_left (sa.nl.1 n.1.1)
      have h2 : x ≤ Rv h := a2.resolve_left (sa.nh.1 n.1.2)
      have h3 : Rv m ≤ y := b1.resolve_left (sb.nl.1 n.2.1)
      have h4 : y ≤ Rv k := b2.resolve_left (sb.nh.1 n.2.2)
      refine ⟨s, t, q, ?_, ?_⟩
      · obtain ⟨d1, d2, d3, d4, i1, i2, i3, i4, rfl⟩ := F4.d
        have low : ∀ {X Y d : Int}, isD d (MD X Y) → (X : Rat) / (C : Rat) * ((Y : Rat) / (C : Rat)) ≤ x * y → min (min (min d1 d2) d3) d4 ≤ d → min (min (min d1 d2) d3) d4 = -(I : Int) ∨ Rv (min (min (min d1 d2) d3) d4) ≤ x * y := by
          intro X Y d hd hxy hle
          rcases hd.at_ with e | e
          · left
            have := i1.lo; have := i2.lo; have := i3.lo; have := i4.lo
            omega
          · right
            have h5 : Rv d ≤ (X : Rat) / (C : Rat) * ((Y : Rat) / (C : Rat)) := mul_pred.1.1 e
            have h6 := Rv_le.2 hle
            grind
        rcases rcorner_lo h1 h2 h3 h4 with e | e | e | e
        · exact low i1 e (by omega)
        · exact low i2 e (by omega)
        · exact low i3 e (by omega)
        · exact low i4 e (by omega)
      · obtain ⟨d1, d2, d3, d4, i1, i2, i3, i4, rfl⟩ := F4.u
        have low : ∀ {X Y d : Int}, isU d (MU X Y) → x * y ≤ (X : Rat) / (C : Rat) * ((Y : Rat) / (C : Rat)) → d ≤ max (max (max d1 d2) d3) d4 → max (max (max d1 d2) d3) d4 = I ∨ x * y ≤ Rv (max (max (max d1 d2) d3) d4) := by
          intro X Y d hd hxy hle
          rcases hd.at_ with e | e
          · left
            have := i1.hi; have := i2.hi; have := i3.hi; have := i4.hi
            omega
          · right
            have h5 : (X : Rat) / (C : Rat) * ((Y : Rat) / (C : Rat)) ≤ Rv d := mul_pred.2.1 e
            have h6 := Rv_le.2 hle
            grind
        rcases rcorner_hi h1 h2 h3 h4 with e | e | e | e
        · exact low i1 e (by omega)
        · exact low i2 e (by omega)
        · exact low i3 e (by omega)
        · exact low i4 e (by omega)
    · obtain ⟨rfl, rfl⟩ := w c n
      exact ⟨_, _, q, .inl rfl, .inl rfl⟩

/-- Two spans that hold one number: neither lies wholly above the other. -/
theorem hs_meet {a b : LSpan} {x : Rat} (ha : Hs a x) (hb : Hs b x) : ∃ l h m k, SV a l h ∧ SV b m k ∧ l ≤ k ∧ m ≤ h := by
  obtain ⟨l, h, sa, a1, a2⟩ := ha
  obtain ⟨m, k, sb, b1, b2⟩ := hb
  have := sa.b1; have := sa.b4; have := sb.b1; have := sb.b4
  refine ⟨l, h, m, k, sa, sb, ?_, ?_⟩
  · rcases a1 with e | e
    · have := sb.b3; omega
    · rcases b2 with e2 | e2
      · have := sa.b2; omega
      · exact Rv_le.1 (Rat.le_trans e e2)
  · rcases b1 with e | e
    · have := sa.b3; omega
    · rcases a2 with e2 | e2
      · have := sb.b2; omega
      · exact Rv_le.1 (Rat.le_trans e e2)

/-! ### A point of a triangle -/
theorem spread_ok {s : LShape} {u v : Nat} (ou : span_Of.ok M0 u = true) (ov : span_Of.ok M0 v = true) (hu : SVs (span_Of M0 u)) (hv : SVs (span_Of M0 v)) (p0 : SV3 s.p.p0) (p1 : SV3 s.p.p1) (p2 : SV3 s.p.p2) : shape_Spread.ok M0 s u v = true := by
  obtain ⟨e1, e2⟩ := edges_ni (NI3.refl p0) (NI3.refl p1) (NI3.refl p2)
  have g1 := e1.left
  have g2 := e2.left
  have o1 : span_Of.ok M0 4607182418800017408 = true := by kernel_rfl
  have hr := svs_sqrt hu
  have hs := svs_sub of_one hv
  have hsec := svs_mul hr hs
  have hthi := svs_mul hr hv
  have g3 := (vscale_ni (NI3.refl g1) (NI.refl hsec)).left
  have g4 := (vscale_ni (NI3.refl g2) (NI.refl hthi)).left
  have g5 := (vadd_ni (NI3.refl g3) (NI3.refl g4)).left
  unfold shape_Spread.ok
  dsimp only
  rw [ou, ov, o1, sqrt_ok hu, edges_ok p0 p1 p2, sub_ok of_one hv, mul_ok hr hs, mul_ok hr hv, vscale_ok g1 hsec, vscale_ok g2 hthi, vadd_ok g3 g4, vadd_ok p0 g5]
  cases (s.kind != 1) <;> rfl

end Go.Lan
