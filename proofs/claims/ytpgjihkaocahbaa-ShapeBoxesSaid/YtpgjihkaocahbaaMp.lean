/- Div64's two loops. -/
import Derived.Test.YtpgjihkaocahbaaMo
namespace Go.Lan

def DJ (s : Nat × Nat) : Prop := s.2 < w32 ∧ s.1 ≤ w32 + 1

theorem DJ_next {b a u : Nat} {s s2 : Nat × Nat} (h : DJ s) (hd : dstep b a u s = some (true, s2)) : DJ s2 := by
  unfold dstep at hd
  split at hd
  · split at hd
    · cases hd
    · cases hd
      exact ⟨by dsimp only; omega, by have := h.2; dsimp only; omega⟩
  · cases hd

/-- The tests and the numbers of a round. -/
theorem dround {q r a b u : Nat} (hq : q ≤ w32 + 1) (hr : r < w32) (ha : a < w32) (hb : b < w32) (hu : u < w32) :
    decide (((q : Nat) : Int) ≥ 4294967296) = decide (w32 ≤ q) ∧
    (¬ w32 ≤ q → decide ((IntKind.u64.wrap (((q : Nat) : Int) * ((a : Nat) : Int))) > (IntKind.u64.wrap ((IntKind.u64.wrap (4294967296 * ((r : Nat) : Int))) + ((u : Nat) : Int)))) = decide (w32 * r + u < q * a)) ∧
    (0 < q → IntKind.u64.wrap (((q : Nat) : Int) - 1) = ((q - 1 : Nat) : Int)) ∧ IntKind.u64.wrap (((r : Nat) : Int) + ((b : Nat) : Int)) = ((r + b : Nat) : Int) ∧
    decide (((r + b : Nat) : Int) ≥ 4294967296) = decide (w32 ≤ r + b) := by
  have hm := hm64
  have hw := w32_eq
  refine ⟨by rw [Bool.eq_iff_iff, decide_eq_true_eq, decide_eq_true_eq]; omega, fun h => ?_, fun h => ?_, ?_, by rw [Bool.eq_iff_iff, decide_eq_true_eq, decide_eq_true_eq]; omega⟩
  · have h1 : q * a ≤ 4294967295 * 4294967295 := Nat.mul_le_mul (by omega) (by omega)
    have e1 : ((q : Nat) : Int) * ((a : Nat) : Int) = ((q * a : Nat) : Int) := by simp
    have e2 : (4294967296 : Int) * ((r : Nat) : Int) = ((4294967296 * r : Nat) : Int) := by simp
    rw [e1, e2, u_wrap_lt (n := q * a) (by omega), u_wrap_lt (n := 4294967296 * r) (by omega)]
    have e3 : ((4294967296 * r : Nat) : Int) + ((u : Nat) : Int) = ((4294967296 * r + u : Nat) : Int) := by simp
    rw [e3, u_wrap_lt (by omega), Bool.eq_iff_iff, decide_eq_true_eq, decide_eq_true_eq, hw]
    omega
  · have e : ((q : Nat) : Int) - 1 = ((q - 1 : Nat) : Int) := by omega
    rw [e, u_wrap_lt (by omega)]
  · have e : ((r : Nat) : Int) + ((b : Nat) : Int) = ((r + b : Nat) : Int) := by simp
    rw [e, u_wrap_lt (by omega)]

def T17 (Y s b a U u v : Nat) (p : Nat × Nat) : Int × Int × Int × Int × Int × Int × Int × Int × Int := ((Y : Int), (s : Int), (b : Int), (a : Int), (U : Int), (u : Int), (v : Int), (p.1 : Int), (p.2 : Int))
def T24 (Y s b a u q1 U : Nat) (p : Nat × Nat) : Int × Int × Int × Int × Int × Int × Int × Int × Int := ((Y : Int), (s : Int), (b : Int), (a : Int), (u : Int), (q1 : Int), (p.2 : Int), (U : Int), (p.1 : Int))

theorem step17 {Y s b a U u v : Nat} (ha : a < w32) (hb : b < w32) (hu : u < w32) (p : Nat × Nat) (h : DJ p) : bits_Div64.L17.step M0 (T17 Y s b a U u v p) = (dstep b a u p).map fun x => (x.1, T17 Y s b a U u v x.2) := by
  obtain ⟨q, r⟩ := p
  obtain ⟨d1, d2, d3, d4, d5⟩ := dround (q := q) (r := r) (a := a) (b := b) (u := u) h.2 h.1 ha hb hu
  have hw := w32_eq
  unfold bits_Div64.L17.step bits_Div64.L17.k T17 dstep
  dsimp only
  rw [d1, d4, d5]
  by_cases c1 : w32 ≤ q
  · rw [decide_eq_true c1, cond_true, if_pos (.inl c1), d3 (by omega)]
    by_cases c2 : w32 ≤ r + b
    · rw [decide_eq_true c2, cond_true, if_pos c2]; rfl
    · rw [decide_eq_false c2, cond_false, if_neg c2]; rfl
  · rw [decide_eq_false c1, cond_false, d2 c1]
    by_cases c3 : w32 * r + u < q * a
    · have hq : 0 < q := by
        rcases Nat.eq_zero_or_pos q with h0 | h0
        · rw [h0, Nat.zero_mul] at c3; omega
        · exact h0
      rw [decide_eq_true c3, cond_true, if_pos (.inr c3), d3 hq]
      by_cases c2 : w32 ≤ r + b
      · rw [decide_eq_true c2, cond_true, if_pos c2]; rfl
      · rw [decide_eq_false c2, cond_false, if_neg c2]; rfl
    · rw [decide_eq_false c3, cond_false, if_neg (by omega)]; rfl

theorem step24 {Y s b a u q1 U : Nat} (ha : a < w32) (hb : b < w32) (hu : u < w32) (p : Nat × Nat) (h : DJ p) : bits_Div64.L24.step M0 (T24 Y s b a u q1 U p) = (dstep b a u p).map fun x => (x.1, T24 Y s b a u q1 U x.2) := by
  obtain ⟨q, r⟩ := p
  obtain ⟨d1, d2, d3, d4, d5⟩ := dround (q := q) (r := r) (a := a) (b := b) (u := u) h.2 h.1 ha hb hu
  have hw := w32_eq
  unfold bits_Div64.L24.step bits_Div64.L24.k T24 dstep
  dsimp only
  rw [d1, d4, d5]
  by_cases c1 : w32 ≤ q
  · rw [decide_eq_true c1, cond_true, if_pos (.inl c1), d3 (by omega)]
    by_cases c2 : w32 ≤ r + b
    · rw [decide_eq_true c2, cond_true, if_pos c2]; rfl
    · rw [decide_eq_false c2, cond_false, if_neg c2]; rfl
  · rw [decide_eq_false c1, cond_false, d2 c1]
    by_cases c3 : w32 * r + u < q * a
    · have hq : 0 < q := by
        rcases Nat.eq_zero_or_pos q with h0 | h0
        · rw [h0, Nat.zero_mul] at c3; omega
        · exact h0
      rw [decide_eq_true c3, cond_true, if_pos (.inr c3), d3 hq]
      by_cases c2 : w32 ≤ r + b
      · rw [decide_eq_true c2, cond_true, if_pos c2]; rfl
      · rw [decide_eq_false c2, cond_false, if_neg c2]; rfl
    · rw [decide_eq_false c3, cond_false, if_neg (by omega)]; rfl

end Go.Lan
