/- A digit of a long division. -/
import Derived.Test.YtpgjihkaocahbaaMn
namespace Go.Lan

def w32 : Nat := 4294967296
theorem w32_eq : w32 = 4294967296 := rfl

/-- One round: the digit is too great. -/
def dstep (b a u : Nat) (s : Nat × Nat) : Option (Bool × (Nat × Nat)) :=
  if w32 ≤ s.1 ∨ w32 * s.2 + u < s.1 * a then (if w32 ≤ s.2 + b then some (false, (s.1 - 1, s.2 + b)) else some (true, (s.1 - 1, s.2 + b))) else some (false, s)

structure DInv (b a u U : Nat) (s : Nat × Nat) : Prop where
  eq : s.1 * b + s.2 = U
  lt : s.2 < w32
  le : (U * w32 + u) / (b * w32 + a) ≤ s.1
  top : s.1 ≤ w32 + 1

theorem dstep_end {b a u U : Nat} (hb : 2147483648 ≤ b) (ha : a < w32) (hu : u < w32) (hU : U < b * w32 + a) {s : Nat × Nat} (h : DInv b a u U s) :
    (∃ r, dstep b a u s = some (false, ((U * w32 + u) / (b * w32 + a), r))) ∨ (∃ s2, dstep b a u s = some (true, s2) ∧ DInv b a u U s2 ∧ s2.2 = s.2 + b) := by
  obtain ⟨q, r⟩ := s
  obtain ⟨h1, h2, h3, h4⟩ := h
  dsimp only at h1 h2 h3 h4
  have hw := w32_eq
  have hy : 0 < b * w32 + a := by rw [hw]; omega
  have hQ : (U * w32 + u) / (b * w32 + a) < w32 := by
    refine (Nat.div_lt_iff_lt_mul hy).2 ?_
    have : (U + 1) * w32 ≤ (b * w32 + a) * w32 := Nat.mul_le_mul_right _ hU
    rw [Nat.add_mul, Nat.mul_comm (b * w32 + a)] at this
    omega
  generalize hQe : (U * w32 + u) / (b * w32 + a) = Q at *
  have leQ : ∀ x, x * (b * w32 + a) ≤ U * w32 + u → x ≤ Q := fun x hx => by rw [← hQe]; exact (Nat.le_div_iff_mul_le hy).2 hx
  have Qle : Q * (b * w32 + a) ≤ U * w32 + u := by rw [← hQe]; exact Nat.div_mul_le_self _ _
  have expand : ∀ x, x * (b * w32 + a) = x * b * w32 + x * a := fun x => by rw [Nat.mul_add, Nat.mul_assoc]
  unfold dstep
  dsimp only
  by_cases hc : w32 ≤ q ∨ w32 * r + u < q * a
  · rw [if_pos hc]
    have hq : Q < q := by
      rcases hc with hc | hc
      · omega
      · rcases Nat.lt_or_ge Q q with h5 | h5
        · exact h5
        · exfalso
          have h6 : q * (b * w32 + a) ≤ U * w32 + u := Nat.le_trans (Nat.mul_le_mul_right _ h5) Qle
          rw [expand, ← h1, Nat.add_mul, Nat.mul_comm r] at h6
          omega
    have h7 : (q - 1) * b + (r + b) = U := by
      have : q * b = (q - 1) * b + b := by
        conv => lhs; rw [show q = (q - 1) + 1 by omega]
        rw [Nat.add_mul, Nat.one_mul]
      omega
    by_cases hr : w32 ≤ r + b
    · rw [if_pos hr]
      left
      refine ⟨r + b, ?_⟩
      have h8 : q - 1 ≤ Q := leQ _ (by
        rw [expand, ← h7, Nat.add_mul]
        have h9 : (q - 1) * a ≤ w32 * (r + b) := Nat.mul_le_mul (by omega) (by omega)
        rw [Nat.mul_comm (r + b)]
        omega)
      rw [show q - 1 = Q by omega]
    · rw [if_neg hr]
      right
      exact ⟨_, rfl, ⟨h7, by dsimp only; omega, by dsimp only; rw [hQe]; omega, by dsimp only; omega⟩, rfl⟩
  · rw [if_neg hc]
    left
    refine ⟨r, ?_⟩
    have h8 : q ≤ Q := leQ _ (by
      rw [expand, ← h1, Nat.add_mul, Nat.mul_comm r]
      omega)
    rw [show q = Q by omega]

theorem drun {b a u U : Nat} (hb : 2147483648 ≤ b) (ha : a < w32) (hu : u < w32) (hU : U < b * w32 + a) {q r : Nat} (h : DInv b a u U (q, r)) :
    ∃ r2, runL (dstep b a u) 4 (q, r) = some ((U * w32 + u) / (b * w32 + a), r2) := by
  have hw := w32_eq
  simp only [runL]
  rcases dstep_end hb ha hu hU h with ⟨r2, e⟩ | ⟨s2, e, h2, e2⟩
  · rw [e]; exact ⟨r2, rfl⟩
  · rw [e]
    dsimp only
    rcases dstep_end hb ha hu hU h2 with ⟨r3, e3⟩ | ⟨s3, e3, h3, e4⟩
    · rw [e3]; exact ⟨r3, rfl⟩
    · exfalso
      have := h3.lt
      omega

/-- A loop that does these rounds. -/
theorem drun_sim {σ : Type} {b a u : Nat} {step : σ → Option (Bool × σ)} {T : Nat × Nat → σ} {J : Nat × Nat → Prop} (hs : ∀ s, J s → step (T s) = (dstep b a u s).map fun p => (p.1, T p.2)) (hJ : ∀ s s2, J s → dstep b a u s = some (true, s2) → J s2) :
    ∀ (n : Nat) (s : Nat × Nat), J s → runL step n (T s) = (runL (dstep b a u) n s).map T
  | 0, _, _ => rfl
  | n + 1, s, h => by
    simp only [runL]
    rw [hs s h]
    cases hd : dstep b a u s with
    | none => rfl
    | some p =>
      obtain ⟨g, s2⟩ := p
      cases g
      · rfl
      · exact drun_sim hs hJ n s2 (hJ s s2 h hd)

end Go.Lan
