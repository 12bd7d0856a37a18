/- Div64. -/
import Derived.Test.YtpgjihkaocahbaaMp
namespace Go.Lan

theorem first_inv {b a u U : Nat} (hb : 2147483648 ≤ b) (hb2 : b < w32) (ha : a < w32) (hu : u < w32) (hU : U < b * w32 + a) : DInv b a u U (U / b, U % b) ∧ DJ (U / b, U % b) := by
  have hw := w32_eq
  have h0 : 0 < b := by omega
  have h1 := Nat.mod_lt U h0
  have htop : U / b ≤ w32 + 1 := by
    have : U / b < w32 + 2 := (Nat.div_lt_iff_lt_mul h0).2 (by
      rw [Nat.add_mul, Nat.mul_comm w32]
      omega)
    omega
  refine ⟨⟨by dsimp only; rw [Nat.mul_comm]; exact Nat.div_add_mod U b, by dsimp only; omega, ?_, htop⟩, ⟨by dsimp only; omega, htop⟩⟩
  dsimp only
  -- (U w + u) / (b w + a) ≤ U / b
  refine Nat.le_trans (Nat.div_le_div_left (Nat.le_add_right (b * w32) a) (Nat.mul_pos h0 (by omega))) ?_
  rw [Nat.mul_comm b, ← Nat.div_div_eq_div_mul, Nat.mul_comm U, Nat.mul_add_div (by omega), Nat.div_eq_of_lt hu, Nat.add_zero]
  exact Nat.le_refl _

theorem loop17 {Y s b a U u v : Nat} (hb : 2147483648 ≤ b) (hb2 : b < w32) (ha : a < w32) (hu : u < w32) (hU : U < b * w32 + a) :
    ∃ r : Nat, bits_Div64.L17 M0 Y s b a U u v (U / b : Nat) (U % b : Nat) = ((Y : Int), (s : Int), (b : Int), (a : Int), (U : Int), (u : Int), (v : Int), (((U * w32 + u) / (b * w32 + a) : Nat) : Int), (r : Int)) ∧
      bits_Div64.L17.ok M0 Y s b a U u v (U / b : Nat) (U % b : Nat) = true := by
  obtain ⟨i1, i2⟩ := first_inv hb hb2 ha hu hU
  obtain ⟨r, hr⟩ := drun hb ha hu hU i1
  have key := drun_sim (T := T17 Y s b a U u v) (J := DJ) (step := bits_Div64.L17.step M0) (fun p h => step17 ha hb2 hu p h) (fun p p2 h hd => DJ_next h hd) 4 (U / b, U % b) i2
  rw [hr] at key
  have e : T17 Y s b a U u v (U / b, U % b) = ((Y : Int), (s : Int), (b : Int), (a : Int), (U : Int), (u : Int), (v : Int), ((U / b : Nat) : Int), ((U % b : Nat) : Int)) := rfl
  rw [e] at key
  unfold bits_Div64.L17 bits_Div64.L17.ok
  rw [key]
  exact ⟨r, rfl, rfl⟩

theorem loop24 {Y s b a q1 U u : Nat} (hb : 2147483648 ≤ b) (hb2 : b < w32) (ha : a < w32) (hu : u < w32) (hU : U < b * w32 + a) :
    ∃ r : Nat, bits_Div64.L24 M0 Y s b a u q1 (U % b : Nat) U (U / b : Nat) = ((Y : Int), (s : Int), (b : Int), (a : Int), (u : Int), (q1 : Int), (r : Int), (U : Int), (((U * w32 + u) / (b * w32 + a) : Nat) : Int)) ∧
      bits_Div64.L24.ok M0 Y s b a u q1 (U % b : Nat) U (U / b : Nat) = true := by
  obtain ⟨i1, i2⟩ := first_inv hb hb2 ha hu hU
  obtain ⟨r, hr⟩ := drun hb ha hu hU i1
  have key := drun_sim (T := T24 Y s b a u q1 U) (J := DJ) (step := bits_Div64.L24.step M0) (fun p h => step24 ha hb2 hu p h) (fun p p2 h hd => DJ_next h hd) 4 (U / b, U % b) i2
  rw [hr] at key
  have e : T24 Y s b a u q1 U (U / b, U % b) = ((Y : Int), (s : Int), (b : Int), (a : Int), (u : Int), (q1 : Int), ((U % b : Nat) : Int), (U : Int), ((U / b : Nat) : Int)) := rfl
  rw [e] at key
  unfold bits_Div64.L24 bits_Div64.L24.ok
  rw [key]
  exact ⟨r, rfl, rfl⟩

end Go.Lan
