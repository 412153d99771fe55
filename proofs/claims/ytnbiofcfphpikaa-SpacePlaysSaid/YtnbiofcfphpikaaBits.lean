/-
  Bits of 64-bit words, as the walk spells them.
-/
import Derived.Test.YtnbiofcfphpikaaMem
namespace Go.Proofs.Ytnbiofcfphpikaa
open Go.RowKit

theorem wrap_pow {k : Nat} (hk : k < 64) : IntKind.u64.wrap (2 ^ k) = ((2 ^ k : Nat) : Int) := by
  have h : (2 : Nat) ^ k < 2 ^ 64 := Nat.pow_lt_pow_right (by omega) hk
  rw [IntKind.wrap_u64]
  have e : ((2 : Int) ^ k) = ((2 ^ k : Nat) : Int) := by simp
  rw [e]
  have h64 : (2 : Nat) ^ 64 = 18446744073709551616 := by decide
  rw [h64] at h
  generalize (2 : Nat) ^ k = p at *
  omega
theorem bit_test {u k : Nat} (hu : u < 18446744073709551616) (hk : k < 64) : (bits .and .u64 (u : Int) (IntKind.u64.wrap (2 ^ k)) != 0) = u.testBit k := by
  have h : (2 : Nat) ^ k < 2 ^ 64 := Nat.pow_lt_pow_right (by omega) hk
  rw [wrap_pow hk, u64_and_nat u (2 ^ k) hu (by have : (2 : Nat) ^ 64 = 18446744073709551616 := by decide
                                                omega)]
  rw [nat_bit, Nat.testBit_eq_decide_div_mod_eq]
  have h2 : u / 2 ^ k % 2 < 2 := Nat.mod_lt _ (by omega)
  have hp : 0 < (2 : Nat) ^ k := Nat.two_pow_pos k
  rcases (show u / 2 ^ k % 2 = 0 ∨ u / 2 ^ k % 2 = 1 by omega) with e | e
  · rw [e]; simp
  · rw [e]
    generalize (2 : Nat) ^ k = p at *
    have hne : ((1 * p : Nat) : Int) ≠ 0 := by omega
    simp [bne_iff_ne]
    omega
theorem bit_or {u k : Nat} (hu : u < 18446744073709551616) (hk : k < 64) : bits .or .u64 (u : Int) (IntKind.u64.wrap (2 ^ k)) = ((u ||| 2 ^ k : Nat) : Int) := by
  have h : (2 : Nat) ^ k < 2 ^ 64 := Nat.pow_lt_pow_right (by omega) hk
  rw [wrap_pow hk, u64_or_nat u (2 ^ k) hu (by have : (2 : Nat) ^ 64 = 18446744073709551616 := by decide
                                               omega)]
theorem bit_clear {u k : Nat} (hu : u < 18446744073709551616) (hk : k < 64) (hb : u.testBit k = true) : bits .andNot .u64 (u : Int) (IntKind.u64.wrap (2 ^ k)) = ((u ^^^ 2 ^ k : Nat) : Int) := by
  have h : (2 : Nat) ^ k < 2 ^ 64 := Nat.pow_lt_pow_right (by omega) hk
  have h64 : (2 : Nat) ^ 64 = 18446744073709551616 := by decide
  rw [wrap_pow hk, u64_andNot_nat u (2 ^ k) hu (by omega)]
  congr 1
  apply Nat.eq_of_testBit_eq
  intro i
  rw [show 18446744073709551615 - 2 ^ k = 2 ^ 64 - (2 ^ k + 1) by omega, Nat.testBit_and, Nat.testBit_two_pow_sub_succ h, HS.testBit_xor_pow, Nat.testBit_two_pow]
  by_cases e : i = k
  · subst e; simp [hb]
  · have e' : ¬ k = i := fun h => e h.symm
    by_cases hi : i < 64
    · simp [e, e', hi]
    · have : u.testBit i = false := Nat.testBit_lt_two_pow (Nat.lt_of_lt_of_le (by omega) (Nat.pow_le_pow_right (n := 2) (by omega) (show 64 ≤ i by omega)))
      simp [e, this]
theorem used_lt {H : HS} (hW : H.Wf) {s : Nat} (hs : s < H.n) : H.used s < 18446744073709551616 := by
  rcases (show H.cls s ≤ 0 ∨ 0 < H.cls s by omega) with h | h
  · rw [hW.un s hs h]; omega
  · have h2 := (hW.uc s hs h).2
    have : (2 : Nat) ^ (64 / (H.cls s).toNat) ≤ 2 ^ 64 := Nat.pow_le_pow_right (by omega) (Nat.div_le_self _ _)
    have h64 : (2 : Nat) ^ 64 = 18446744073709551616 := by decide
    omega
end Go.Proofs.Ytnbiofcfphpikaa
