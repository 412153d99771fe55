/-
  Headers as numbers; what may be a reference.
-/
import Derived.Test.YtnbiofcfphpikaaBits
namespace Go.Proofs.Ytnbiofcfphpikaa
open Go.RowKit

theorem HS.roomI_cast (H : HS) (a : Nat) : H.roomI (a : Int) = H.room a := by unfold HS.roomI; rw [if_neg (by omega), Int.toNat_natCast]
theorem HS.roomI_pos {H : HS} {x : Int} (h : H.roomI x ≠ 0) : 0 ≤ x ∧ H.room x.toNat = H.roomI x := by
  unfold HS.roomI at h ⊢
  by_cases hx : x < 0
  · rw [if_pos hx] at h; exact absurd rfl h
  · rw [if_neg hx]; exact ⟨by omega, rfl⟩

/-- May these be a header's parts? -/
def hdrOk (k s m : Int) : Prop := 1 ≤ k ∧ k ≤ 4 ∧ 0 ≤ s ∧ s < 16448 ∧ 0 ≤ m ∧ m < 65536
instance (k s m : Int) : Decidable (hdrOk k s m) := by unfold hdrOk; infer_instance
def hdr (k s m : Int) : Int := if hdrOk k s m then 268435456 * m + 2048 * s + 256 * k + 90 else 0
def hk (h : Int) : Int := h / 256 % 8
def hs (h : Int) : Int := h / 2048 % 131072
def hm (h : Int) : Int := h / 268435456
def isHdr (h : Int) : Bool := decide (h ≠ 0) && decide (hdr (hk h) (hs h) (hm h) = h)
theorem hdr_parts {k s m : Int} (h : hdrOk k s m) : hk (hdr k s m) = k ∧ hs (hdr k s m) = s ∧ hm (hdr k s m) = m ∧ isHdr (hdr k s m) = true ∧ hdr k s m ≠ 0 := by
  have h' := h
  unfold hdrOk at h'
  have e : hdr k s m = 268435456 * m + 2048 * s + 256 * k + 90 := by unfold hdr; rw [if_pos h]
  have e1 : hk (hdr k s m) = k := by rw [e]; unfold hk; omega
  have e2 : hs (hdr k s m) = s := by rw [e]; unfold hs; omega
  have e3 : hm (hdr k s m) = m := by rw [e]; unfold hm; omega
  have e4 : hdr k s m ≠ 0 := by rw [e]; omega
  refine ⟨e1, e2, e3, ?_, e4⟩
  unfold isHdr
  rw [e1, e2, e3]
  simp [e4]
theorem hdr_no {k s m : Int} (h : ¬ hdrOk k s m) : hdr k s m = 0 := by unfold hdr; rw [if_neg h]
theorem isHdr_ok {h : Int} (hh : isHdr h = true) : hdrOk (hk h) (hs h) (hm h) ∧ hdr (hk h) (hs h) (hm h) = h := by
  unfold isHdr at hh
  simp only [Bool.and_eq_true, decide_eq_true_eq] at hh
  refine ⟨?_, hh.2⟩
  apply Classical.byContradiction
  intro hno
  rw [hdr_no hno] at hh
  omega

theorem bits_or_i64 {x y : Nat} (hx : x < 9223372036854775808) (hy : y < 9223372036854775808) : bits .or .i64 (x : Int) (y : Int) = ((x ||| y : Nat) : Int) := by
  have h64 : (2 : Nat) ^ 63 = 9223372036854775808 := by decide
  have hxy : x ||| y < 2 ^ 63 := Nat.or_lt_two_pow (by omega) (by omega)
  show IntKind.i64.wrap ((BitVec.ofInt 64 (x : Int) ||| BitVec.ofInt 64 (y : Int)).toNat : Nat) = _
  rw [BitVec.toNat_or, ofInt_u64 x (by omega), ofInt_u64 y (by omega), IntKind.wrap_i64]
  rw [h64] at hxy
  generalize x ||| y = q at *
  omega
theorem bits_or_add {a y : Int} (i : Nat) (hi : i ≤ 40) (h0 : 0 ≤ a) (hmod : a % 2 ^ i = 0) (ha : a < 9223372036854775808) (hy0 : 0 ≤ y) (hy : y < 2 ^ i) : bits .or .i64 a y = a + y := by
  obtain ⟨A, rfl⟩ := Int.eq_ofNat_of_zero_le h0
  obtain ⟨Y, rfl⟩ := Int.eq_ofNat_of_zero_le hy0
  have hp : (2 : Nat) ^ i ≤ 2 ^ 40 := Nat.pow_le_pow_right (by omega) hi
  have h40 : (2 : Nat) ^ 40 = 1099511627776 := by decide
  have e2 : ((2 : Int) ^ i) = ((2 ^ i : Nat) : Int) := by simp
  rw [e2] at hmod hy
  have hYi : Y < 2 ^ i := by omega
  have hAi : A % 2 ^ i = 0 := by exact_mod_cast hmod
  rw [bits_or_i64 (by omega) (by omega), nat_join i A Y hAi hYi]
  push_cast
  rfl
theorem bits_and_mask {x : Int} (i : Nat) (hi : i ≤ 40) : bits .and .i64 x ((2 ^ i - 1 : Nat) : Int) = x % (2 ^ i : Nat) := by
  have hp : (2 : Nat) ^ i ≤ 2 ^ 40 := Nat.pow_le_pow_right (by omega) hi
  have hp1 : 0 < (2 : Nat) ^ i := Nat.two_pow_pos i
  have h40 : (2 : Nat) ^ 40 = 1099511627776 := by decide
  show IntKind.i64.wrap ((BitVec.ofInt 64 x &&& BitVec.ofInt 64 ((2 ^ i - 1 : Nat) : Int)).toNat : Nat) = _
  rw [BitVec.toNat_and, ofInt_u64 (2 ^ i - 1) (by omega), Nat.and_two_pow_sub_one_eq_mod, IntKind.wrap_i64]
  have e : ((BitVec.ofInt 64 x).toNat : Int) = x % 18446744073709551616 := by
    rw [BitVec.toNat_ofInt]
    have : ((2 ^ 64 : Nat) : Int) = 18446744073709551616 := by decide
    rw [this]
    omega
  have e3 : (((BitVec.ofInt 64 x).toNat % 2 ^ i : Nat) : Int) = x % ((2 ^ i : Nat) : Int) := by
    rw [Int.natCast_emod, e]
    apply Int.emod_emod_of_dvd
    have : (18446744073709551616 : Int) = ((2 ^ 64 : Nat) : Int) := by decide
    rw [this]
    exact Int.natCast_dvd_natCast.2 (Nat.pow_dvd_pow 2 (by omega))
  rw [e3]
  have h1 := Int.emod_nonneg x (show ((2 ^ i : Nat) : Int) ≠ 0 by omega)
  have h2 := Int.emod_lt_of_pos x (show (0 : Int) < ((2 ^ i : Nat) : Int) by omega)
  generalize ((2 ^ i : Nat) : Int) = P at *
  generalize x % P = Q at *
  omega
end Go.Proofs.Ytnbiofcfphpikaa
