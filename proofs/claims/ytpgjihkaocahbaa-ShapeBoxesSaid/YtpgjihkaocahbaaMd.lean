/- Exact numbers: taken out of a float, their length, shifted. -/
import Derived.Test.YtpgjihkaocahbaaMc
import Derived.Test.YtpgjihkaocahbaaLb8
namespace Go.Lan

def blen (n : Nat) : Nat := if n = 0 then 0 else n.log2 + 1

theorem blen_le {n k : Nat} : blen n ≤ k ↔ n < 2 ^ k := by
  unfold blen
  split
  · rename_i h
    subst h
    have := Nat.two_pow_pos k
    omega
  · rename_i h
    rw [← Nat.log2_lt h]
    omega
theorem lt_blen {n k : Nat} : k < blen n ↔ 2 ^ k ≤ n := by
  have := @blen_le n k
  omega
theorem blen_mul {n : Nat} (h : n ≠ 0) (k : Nat) : blen (n * 2 ^ k) = blen n + k := by
  unfold blen
  have := Nat.two_pow_pos k
  rw [if_neg h, if_neg (Nat.mul_ne_zero h (by omega)), log2_mul_pow h]
  omega
theorem blen_add {a b k : Nat} (ha : a ≠ 0) (hb : b < 2 ^ k) : blen (a * 2 ^ k + b) = blen a + k := by
  have h0 : a * 2 ^ k + b ≠ 0 := by
    have := Nat.two_pow_pos k
    have := Nat.mul_ne_zero ha (show 2 ^ k ≠ 0 by omega)
    omega
  refine Nat.le_antisymm (blen_le.2 ?_) ?_
  · rw [Nat.pow_add]
    have h1 : a < 2 ^ blen a := blen_le.1 (Nat.le_refl _)
    have : (a + 1) * 2 ^ k ≤ 2 ^ blen a * 2 ^ k := Nat.mul_le_mul_right _ h1
    rw [Nat.add_mul] at this
    omega
  · have h1 : blen (a * 2 ^ k) = blen a + k := blen_mul ha k
    rw [← h1]
    exact blen_le.2 (Nat.lt_of_le_of_lt (Nat.le_add_right _ b) (blen_le.1 (Nat.le_refl _)))

theorem blen_div {n k : Nat} (h : 2 ^ k ≤ n) : blen n = blen (n / 2 ^ k) + k := by
  have h1 : n / 2 ^ k ≠ 0 := by
    have := (Nat.le_div_iff_mul_le (Nat.two_pow_pos k)).2 (by simpa using h : 1 * 2 ^ k ≤ n)
    omega
  have h2 := Nat.div_add_mod n (2 ^ k)
  have h3 := blen_add h1 (Nat.mod_lt n (Nat.two_pow_pos k))
  rw [Nat.mul_comm] at h2
  rw [h2] at h3
  exact h3

theorem len_tab : ∀ i, i < 256 → (str0.data.toList.getD i 0).toNat = blen i := of_decide_eq_true (by kernel_rfl)

theorem str0_size : str0.size = 256 := by kernel_rfl

theorem lenTab {x : Nat} (h : x < 256) : (str0.data.toList.getD (Int.toNat (IntKind.u8.wrap (x : Int))) 0).toNat = blen x ∧ (decide (0 ≤ IntKind.u8.wrap (x : Int)) && decide (IntKind.u8.wrap (x : Int) < str0.size)) = true := by
  have e : IntKind.u8.wrap (x : Int) = x := by rw [IntKind.wrap_u8]; omega
  rw [e, Int.toNat_natCast]
  refine ⟨len_tab x h, ?_⟩
  rw [str0_size]
  simp
  omega

theorem small_len {x : Nat} (h : x < 256) (c : Nat) (hc : c ≤ 56) : IntKind.i64.wrap ((c : Int) + IntKind.i64.wrap ((str0.data.toList.getD (Int.toNat (IntKind.u8.wrap (x : Int))) 0).toNat : Int)) = ((c + blen x : Nat) : Int) := by
  rw [(lenTab h).1]
  have : blen x ≤ 8 := blen_le.2 (by simpa using h)
  have e : IntKind.i64.wrap ((blen x : Nat) : Int) = (blen x : Nat) := i_in (by omega)
  rw [e, i_in (by omega)]
  omega

theorem len64 {x : Nat} (h : x < m64) : bits_Len64 M0 (x : Int) = (blen x : Nat) ∧ bits_Len64.ok M0 (x : Int) = true := by
  unfold bits_Len64 bits_Len64.ok
  have big : ∀ (a k : Nat), 2 ^ k ≤ a → blen a = blen (a / 2 ^ k) + k := fun a k h => blen_div h
  have s32 : shrV .u64 (x : Int) 32 = ((x / 4294967296 : Nat) : Int) := u_shr h 32
  have s16 : ∀ y : Nat, y < m64 → shrV .u64 (y : Int) 16 = ((y / 65536 : Nat) : Int) := fun y hy => u_shr hy 16
  have s8 : ∀ y : Nat, y < m64 → shrV .u64 (y : Int) 8 = ((y / 256 : Nat) : Int) := fun y hy => u_shr hy 8
  have hm : m64 = 18446744073709551616 := rfl
  -- the two halves alike
  have half : ∀ (y c : Nat), y < 4294967296 → c ≤ 32 →
      cond (decide ((y : Int) ≥ 65536))
        (cond (decide (shrV .u64 (y : Int) 16 ≥ 256))
          (IntKind.i64.wrap (((c + 24 : Nat) : Int) + (IntKind.i64.wrap ((str0.data.toList.getD (Int.toNat (IntKind.u8.wrap (shrV .u64 (shrV .u64 (y : Int) 16) 8))) 0).toNat))))
          (IntKind.i64.wrap (((c + 16 : Nat) : Int) + (IntKind.i64.wrap ((str0.data.toList.getD (Int.toNat (IntKind.u8.wrap (shrV .u64 (y : Int) 16))) 0).toNat)))))
        (cond (decide ((y : Int) ≥ 256))
          (IntKind.i64.wrap (((c + 8 : Nat) : Int) + (IntKind.i64.wrap ((str0.data.toList.getD (Int.toNat (IntKind.u8.wrap (shrV .u64 (y : Int) 8))) 0).toNat))))
          (IntKind.i64.wrap (((c + 0 : Nat) : Int) + (IntKind.i64.wrap ((str0.data.toList.getD (Int.toNat (IntKind.u8.wrap (y : Int))) 0).toNat))))) = ((c + blen y : Nat) : Int) := by
    intro y c hy hc
    rw [s16 y (by omega), s8 y (by omega), s8 _ (by omega)]
    by_cases h1 : 65536 ≤ y
    · rw [decide_eq_true (by omega), cond_true]
      have b1 := big y 16 h1
      by_cases h2 : 256 ≤ y / 65536
      · rw [decide_eq_true (by omega), cond_true, small_len (by omega) _ (by omega)]
        have b2 := big (y / 65536) 8 h2
        rw [b1, show y / 2 ^ 16 = y / 65536 from rfl, b2, show y / 65536 / 2 ^ 8 = y / 65536 / 256 from rfl]
        congr 1
        omega
      · rw [decide_eq_false (by omega), cond_false, small_len (by omega) _ (by omega)]
        rw [b1, show y / 2 ^ 16 = y / 65536 from rfl]
        congr 1
        omega
    · rw [decide_eq_false (by omega), cond_false]
      by_cases h2 : 256 ≤ y
      · rw [decide_eq_true (by omega), cond_true, small_len (by omega) _ (by omega)]
        have b2 := big y 8 h2
        rw [b2, show y / 2 ^ 8 = y / 256 from rfl]
        congr 1
        omega
      · rw [decide_eq_false (by omega), cond_false, small_len (by omega) _ (by omega)]
        rfl
  have halfok : ∀ (y : Nat), y < 4294967296 →
      cond (decide ((y : Int) ≥ 65536))
        (cond (decide (shrV .u64 (y : Int) 16 ≥ 256))
          (cond (decide (0 ≤ IntKind.u8.wrap (shrV .u64 (shrV .u64 (y : Int) 16) 8)) && decide (IntKind.u8.wrap (shrV .u64 (shrV .u64 (y : Int) 16) 8) < str0.size)) true false)
          (cond (decide (0 ≤ IntKind.u8.wrap (shrV .u64 (y : Int) 16)) && decide (IntKind.u8.wrap (shrV .u64 (y : Int) 16) < str0.size)) true false))
        (cond (decide ((y : Int) ≥ 256))
          (cond (decide (0 ≤ IntKind.u8.wrap (shrV .u64 (y : Int) 8)) && decide (IntKind.u8.wrap (shrV .u64 (y : Int) 8) < str0.size)) true false)
          (cond (decide (0 ≤ IntKind.u8.wrap (y : Int)) && decide (IntKind.u8.wrap (y : Int) < str0.size)) true false)) = true := by
    intro y hy
    rw [s16 y (by omega), s8 y (by omega), s8 _ (by omega)]
    by_cases h1 : 65536 ≤ y
    · rw [decide_eq_true (by omega), cond_true]
      by_cases h2 : 256 ≤ y / 65536
      · rw [decide_eq_true (by omega), cond_true, (lenTab (by omega)).2]; rfl
      · rw [decide_eq_false (by omega), cond_false, (lenTab (by omega)).2]; rfl
    · rw [decide_eq_false (by omega), cond_false]
      by_cases h2 : 256 ≤ y
      · rw [decide_eq_true (by omega), cond_true, (lenTab (by omega)).2]; rfl
      · rw [decide_eq_false (by omega), cond_false, (lenTab (by omega)).2]; rfl
  by_cases h0 : 4294967296 ≤ x
  · rw [decide_eq_true (by omega), cond_true, cond_true]
    have b := big x 32 h0
    have e := half (x / 4294967296) 32 (by omega) (by omega)
    have o := halfok (x / 4294967296) (by omega)
    dsimp only
    rw [s32]
    exact ⟨e.trans (by rw [b, show x / 2 ^ 32 = x / 4294967296 from rfl]; congr 1; omega), o⟩
  · rw [decide_eq_false (by omega), cond_false, cond_false]
    have e := half x 0 (by omega) (by omega)
    have o := halfok x (by omega)
    exact ⟨e.trans (by rw [Nat.zero_add]), o⟩

/-! ### Exact numbers -/
def ex (neg : Bool) (N : Nat) (e : Int) (more : Bool) : LExact := ⟨neg, (N / m64 : Nat), (N % m64 : Nat), e, more⟩

theorem ex_small (neg : Bool) {m : Nat} (h : m < m64) (e : Int) (more : Bool) : ex neg m e more = ⟨neg, 0, m, e, more⟩ := by
  unfold ex
  rw [Nat.div_eq_of_lt h, Nat.mod_eq_of_lt h]
  rfl

theorem zero_ex (neg : Bool) (N : Nat) (e : Int) (more : Bool) : round_exact_zero M0 (ex neg N e more) = decide (N = 0) := by
  unfold round_exact_zero ex
  have h := Nat.div_add_mod N m64
  have hm : m64 = 18446744073709551616 := rfl
  have e1 : (((N / m64 : Nat) : Int) == 0) = decide (N / m64 = 0) := by rw [Bool.eq_iff_iff, beq_iff_eq, decide_eq_true_eq]; omega
  have e2 : (((N % m64 : Nat) : Int) == 0) = decide (N % m64 = 0) := by rw [Bool.eq_iff_iff, beq_iff_eq, decide_eq_true_eq]; omega
  dsimp only
  rw [e1, e2]
  by_cases h1 : N / m64 = 0
  · rw [decide_eq_true h1, cond_true]
    congr 1
    rw [h1] at h
    exact propext ⟨fun h2 => by omega, fun h2 => by omega⟩
  · rw [decide_eq_false h1, cond_false, decide_eq_false]
    intro h2
    rw [h2] at h1
    exact h1 rfl

theorem length_ex (neg : Bool) {N : Nat} (h : N < m64 * m64) (e : Int) (more : Bool) : round_exact_length M0 (ex neg N e more) = (blen N : Nat) ∧ round_exact_length.ok M0 (ex neg N e more) = true := by
  have hm : m64 = 18446744073709551616 := rfl
  have h1 : N / m64 < m64 := Nat.div_lt_of_lt_mul h
  have h2 : N % m64 < m64 := Nat.mod_lt _ (by omega)
  unfold round_exact_length round_exact_length.ok ex
  dsimp only
  rw [(len64 h1).1, (len64 h1).2, (len64 h2).1, (len64 h2).2]
  by_cases h3 : N / m64 = 0
  · have h4 : N % m64 = N := Nat.mod_eq_of_lt (by
      rcases Nat.lt_or_ge N m64 with h5 | h5
      · exact h5
      · have := (Nat.le_div_iff_mul_le (by omega : 0 < m64)).2 (by simpa using h5 : 1 * m64 ≤ N)
        omega)
    rw [h3, h4]
    exact ⟨rfl, rfl⟩
  · have h5 : (((N / m64 : Nat) : Int) != 0) = true := by simp only [bne_iff_ne, ne_eq]; omega
    rw [h5, cond_true, cond_true, cond_true]
    have h6 : 2 ^ 64 ≤ N := by
      rw [← m64_eq]
      rcases Nat.lt_or_ge N m64 with h5 | h5
      · rw [Nat.div_eq_of_lt h5] at h3; omega
      · exact h5
    have h7 := blen_div h6
    rw [← m64_eq] at h7
    have h8 : blen (N / m64) ≤ 64 := blen_le.2 (by rw [← m64_eq]; exact h1)
    exact ⟨by rw [i_in (by omega), h7]; omega, rfl⟩

end Go.Lan
