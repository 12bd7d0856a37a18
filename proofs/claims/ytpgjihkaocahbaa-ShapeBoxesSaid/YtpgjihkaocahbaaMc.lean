/- Words of 64 bits. -/
import Derived.Test.YtpgjihkaocahbaaMb
import Derived.IntWalk
namespace Go.Lan

def m64 : Nat := 18446744073709551616
theorem m64_eq : m64 = 2 ^ 64 := by decide

theorem u_wrap (n : Nat) : IntKind.u64.wrap (n : Int) = ((n % m64 : Nat) : Int) := by
  rw [IntKind.wrap_u64, m64]
  omega
theorem u_wrap_lt {n : Nat} (h : n < m64) : IntKind.u64.wrap (n : Int) = (n : Int) := by
  rw [u_wrap, Nat.mod_eq_of_lt h]
theorem u_toInt {n : Nat} (h : n < m64) : (BitVec.ofInt 64 (n : Int)).toNat = n := by
  rw [BitVec.ofInt_natCast, BitVec.toNat_ofNat, ← m64_eq, Nat.mod_eq_of_lt h]

theorem u_and {a b : Nat} (ha : a < m64) (hb : b < m64) : M0.and .u64 (a : Int) (b : Int) = ((a &&& b : Nat) : Int) := by
  show IntKind.u64.wrap (((BitVec.ofInt 64 (a : Int) &&& BitVec.ofInt 64 (b : Int)).toNat : Nat) : Int) = _
  rw [BitVec.toNat_and, u_toInt ha, u_toInt hb]
  exact u_wrap_lt (Nat.lt_of_le_of_lt Nat.and_le_left ha)
theorem u_or {a b : Nat} (ha : a < m64) (hb : b < m64) : M0.or .u64 (a : Int) (b : Int) = ((a ||| b : Nat) : Int) := by
  show IntKind.u64.wrap (((BitVec.ofInt 64 (a : Int) ||| BitVec.ofInt 64 (b : Int)).toNat : Nat) : Int) = _
  rw [BitVec.toNat_or, u_toInt ha, u_toInt hb]
  refine u_wrap_lt ?_
  rw [m64_eq] at *
  exact Nat.or_lt_two_pow ha hb
theorem u_andNot {a b : Nat} (ha : a < m64) (hb : b < m64) : M0.andNot .u64 (a : Int) (b : Int) = ((a &&& (m64 - 1 - b) : Nat) : Int) := by
  show IntKind.u64.wrap (((BitVec.ofInt 64 (a : Int) &&& ~~~(BitVec.ofInt 64 (b : Int))).toNat : Nat) : Int) = _
  rw [BitVec.toNat_and, BitVec.toNat_not, u_toInt ha, u_toInt hb, ← m64_eq]
  exact u_wrap_lt (Nat.lt_of_le_of_lt Nat.and_le_left ha)

theorem u_shl (x n : Nat) : shlV .u64 (x : Int) (n : Int) = ((x * 2 ^ n % m64 : Nat) : Int) := by
  unfold shlV
  rw [Int.toNat_natCast]
  show IntKind.u64.wrap ((x : Int) * 2 ^ min n 64) = _
  have e : ((x : Int) * 2 ^ min n 64) = ((x * 2 ^ min n 64 : Nat) : Int) := by simp
  rw [e, u_wrap]
  rcases Nat.le_total n 64 with h | h
  · rw [Nat.min_eq_left h]
  · rw [Nat.min_eq_right h]
    congr 1
    rw [show n = (n - 64) + 64 by omega, Nat.pow_add, ← m64_eq, ← Nat.mul_assoc, Nat.mul_mod_left, Nat.mul_mod_left]

theorem u_shr {x : Nat} (hx : x < m64) (n : Nat) : shrV .u64 (x : Int) (n : Int) = ((x / 2 ^ n : Nat) : Int) := by
  unfold shrV
  rw [Int.toNat_natCast]
  show (x : Int).fdiv (2 ^ min n 64) = _
  rw [Int.fdiv_eq_ediv_of_nonneg _ (by exact_mod_cast Nat.zero_le _)]
  have e : ((2 : Int) ^ min n 64) = ((2 ^ min n 64 : Nat) : Int) := by simp
  rw [e, ← Int.natCast_ediv]
  rcases Nat.le_total n 64 with h | h
  · rw [Nat.min_eq_left h]
  · rw [Nat.min_eq_right h, ← m64_eq, Nat.div_eq_of_lt hx]
    have : x < 2 ^ n := by
      refine Nat.lt_of_lt_of_le hx ?_
      rw [m64_eq]
      exact Nat.pow_le_pow_right (by omega) h
    rw [Nat.div_eq_of_lt this]

theorem and_low (a k : Nat) : a &&& (2 ^ k - 1) = a % 2 ^ k := Nat.and_two_pow_sub_one_eq_mod a k
theorem or_add {a b k : Nat} (h : b < 2 ^ k) : a * 2 ^ k ||| b = a * 2 ^ k + b := by
  have := Nat.two_pow_add_eq_or_of_lt h a
  rw [Nat.mul_comm] at this
  exact this.symm

/-- Numbers of 64 bits, as whole numbers. -/
theorem i_in {n : Int} (h : -9223372036854775808 ≤ n ∧ n ≤ 9223372036854775807) : IntKind.i64.wrap n = n := IntWalk.i64_in n h

end Go.Lan
