/-
  Strings in words, as plain data.
-/
import Derived.Test.YtnbiofcfphpikaaList
namespace Go.Proofs.Ytnbiofcfphpikaa
open Go.RowKit

def byt (s : ByteArray) (i : Nat) : Nat := if h : i < s.size then (s[i]'h).toNat else 0
def wsum (s : ByteArray) (k : Nat) : Nat → Nat
  | 0 => 0
  | j + 1 => wsum s k j + byt s (8 * k + j) * 2 ^ (8 * j)
def wrd (s : ByteArray) (k j : Nat) : Int := wrap64 (wsum s k j : Int)
theorem wrd_zero (s : ByteArray) (k : Nat) : wrd s k 0 = 0 := by unfold wrd wsum wrap64; omega
theorem byt_lt (s : ByteArray) (i : Nat) : byt s i < 256 := by
  unfold byt
  split
  · exact (s[i]).toNat_lt
  · omega
theorem byt_out {s : ByteArray} {i : Nat} (h : s.size ≤ i) : byt s i = 0 := by unfold byt; rw [dif_neg (by omega)]
theorem byt_in {s : ByteArray} {i : Nat} (h : i < s.size) : byt s i = (s[i]'h).toNat := by unfold byt; rw [dif_pos h]
theorem wsum_lt (s : ByteArray) (k : Nat) : ∀ j, wsum s k j < 2 ^ (8 * j)
  | 0 => by simp [wsum]
  | j + 1 => by
    have ih := wsum_lt s k j
    have hb := byt_lt s (8 * k + j)
    have e : (2 : Nat) ^ (8 * (j + 1)) = 2 ^ (8 * j) * 256 := by rw [Nat.mul_add, Nat.pow_add]
    unfold wsum
    rw [e]
    generalize (2 : Nat) ^ (8 * j) = p at *
    have : byt s (8 * k + j) * p ≤ 255 * p := Nat.mul_le_mul_right _ (by omega)
    omega
theorem ofInt_wrap64 (X : Nat) (h : X < 18446744073709551616) : (BitVec.ofInt 64 (wrap64 (X : Int))).toNat = X := by
  rw [BitVec.toNat_ofInt]
  have h64 : (2 : Nat) ^ 64 = 18446744073709551616 := by decide
  unfold wrap64
  rw [h64]
  omega
theorem wrap_eq64 (z : Int) : IntKind.i64.wrap z = wrap64 z := by unfold wrap64; rw [IntKind.wrap_i64]
theorem or_step {s : ByteArray} {k j : Nat} (hj : j < 8) (h : 8 * k + j < s.size) : bits .or .i64 (wrd s k j) (wrap64 (wrap64 ((s[8 * k + j]'h).toNat : Int) * 2 ^ (8 * j))) = wrd s k (j + 1) := by
  have hb := byt_lt s (8 * k + j)
  have hw := wsum_lt s k j
  rw [byt_in h] at hb
  have h64 : (2 : Nat) ^ 64 = 18446744073709551616 := by decide
  have hp1 : (2 : Nat) ^ (8 * j) ≤ 2 ^ 56 := Nat.pow_le_pow_right (by omega) (by omega)
  have h56 : (2 : Nat) ^ 56 = 72057594037927936 := by decide
  have e1 : wrap64 ((s[8 * k + j]'h).toNat : Int) = ((s[8 * k + j]'h).toNat : Int) := by unfold wrap64; omega
  have e2 : ((s[8 * k + j]'h).toNat : Int) * 2 ^ (8 * j) = (((s[8 * k + j]'h).toNat * 2 ^ (8 * j) : Nat) : Int) := by push_cast; rfl
  have hle : (s[8 * k + j]'h).toNat * 2 ^ (8 * j) ≤ 255 * 2 ^ (8 * j) := Nat.mul_le_mul_right _ (by omega)
  have hmod : (s[8 * k + j]'h).toNat * 2 ^ (8 * j) % 2 ^ (8 * j) = 0 := Nat.mul_mod_left _ _
  rw [e1, e2]
  unfold wrd
  show IntKind.i64.wrap ((BitVec.ofInt 64 (wrap64 (wsum s k j : Int)) ||| BitVec.ofInt 64 (wrap64 (((s[8 * k + j]'h).toNat * 2 ^ (8 * j) : Nat) : Int))).toNat : Nat) = _
  rw [BitVec.toNat_or, ofInt_wrap64 _ (by omega), ofInt_wrap64 _ (by omega), Nat.or_comm, nat_join (8 * j) _ _ hmod hw]
  have e3 : wsum s k (j + 1) = (s[8 * k + j]'h).toNat * 2 ^ (8 * j) + wsum s k j := by
    conv => lhs; unfold wsum
    rw [byt_in h]
    omega
  rw [e3, wrap_eq64]
theorem wsum_rest (s : ByteArray) (k m : Nat) (hm : s.size ≤ 8 * k + m) : ∀ d, wsum s k (m + d) = wsum s k m
  | 0 => rfl
  | d + 1 => by
    rw [← Nat.add_assoc]
    conv => lhs; unfold wsum
    rw [wsum_rest s k m hm d, byt_out (by omega)]
    omega
theorem wrd_full {s : ByteArray} {k m : Nat} (h : m = 8 ∨ m ≤ 8 ∧ s.size ≤ 8 * k + m) : wrd s k m = wrd s k 8 := by
  rcases h with rfl | ⟨h1, h2⟩
  · rfl
  · unfold wrd
    obtain ⟨d, hd⟩ : ∃ d, 8 = m + d := ⟨8 - m, by omega⟩
    rw [hd, wsum_rest s k m h2 d]
theorem byte_of (s : ByteArray) (k : Nat) {j : Nat} (hj : j < 8) : wrd s k 8 / 2 ^ (8 * j) % 256 = (byt s (8 * k + j) : Int) := by
  have h0 := byt_lt s (8 * k + 0)
  have h1 := byt_lt s (8 * k + 1)
  have h2 := byt_lt s (8 * k + 2)
  have h3 := byt_lt s (8 * k + 3)
  have h4 := byt_lt s (8 * k + 4)
  have h5 := byt_lt s (8 * k + 5)
  have h6 := byt_lt s (8 * k + 6)
  have h7 := byt_lt s (8 * k + 7)
  have e : wsum s k 8 = byt s (8 * k + 0) + byt s (8 * k + 1) * 256 + byt s (8 * k + 2) * 65536 + byt s (8 * k + 3) * 16777216 + byt s (8 * k + 4) * 4294967296 + byt s (8 * k + 5) * 1099511627776 + byt s (8 * k + 6) * 281474976710656 + byt s (8 * k + 7) * 72057594037927936 := by
    simp only [wsum]
    omega
  unfold wrd
  rw [e]
  unfold wrap64
  rcases (by omega : j = 0 ∨ j = 1 ∨ j = 2 ∨ j = 3 ∨ j = 4 ∨ j = 5 ∨ j = 6 ∨ j = 7) with rfl | rfl | rfl | rfl | rfl | rfl | rfl | rfl
  · rw [show (2 : Int) ^ (8 * 0) = 1 by decide]
    generalize byt s (8 * k + 0) = b0 at *
    generalize byt s (8 * k + 1) = b1 at *
    generalize byt s (8 * k + 2) = b2 at *
    generalize byt s (8 * k + 3) = b3 at *
    generalize byt s (8 * k + 4) = b4 at *
    generalize byt s (8 * k + 5) = b5 at *
    generalize byt s (8 * k + 6) = b6 at *
    generalize byt s (8 * k + 7) = b7 at *
    clear e
    omega
  · rw [show (2 : Int) ^ (8 * 1) = 256 by decide]
    generalize byt s (8 * k + 0) = b0 at *
    generalize byt s (8 * k + 1) = b1 at *
    generalize byt s (8 * k + 2) = b2 at *
    generalize byt s (8 * k + 3) = b3 at *
    generalize byt s (8 * k + 4) = b4 at *
    generalize byt s (8 * k + 5) = b5 at *
    generalize byt s (8 * k + 6) = b6 at *
    generalize byt s (8 * k + 7) = b7 at *
    clear e
    omega
  · rw [show (2 : Int) ^ (8 * 2) = 65536 by decide]
    generalize byt s (8 * k + 0) = b0 at *
    generalize byt s (8 * k + 1) = b1 at *
    generalize byt s (8 * k + 2) = b2 at *
    generalize byt s (8 * k + 3) = b3 at *
    generalize byt s (8 * k + 4) = b4 at *
    generalize byt s (8 * k + 5) = b5 at *
    generalize byt s (8 * k + 6) = b6 at *
    generalize byt s (8 * k + 7) = b7 at *
    clear e
    omega
  · rw [show (2 : Int) ^ (8 * 3) = 16777216 by decide]
    generalize byt s (8 * k + 0) = b0 at *
    generalize byt s (8 * k + 1) = b1 at *
    generalize byt s (8 * k + 2) = b2 at *
    generalize byt s (8 * k + 3) = b3 at *
    generalize byt s (8 * k + 4) = b4 at *
    generalize byt s (8 * k + 5) = b5 at *
    generalize byt s (8 * k + 6) = b6 at *
    generalize byt s (8 * k + 7) = b7 at *
    clear e
    omega
  · rw [show (2 : Int) ^ (8 * 4) = 4294967296 by decide]
    generalize byt s (8 * k + 0) = b0 at *
    generalize byt s (8 * k + 1) = b1 at *
    generalize byt s (8 * k + 2) = b2 at *
    generalize byt s (8 * k + 3) = b3 at *
    generalize byt s (8 * k + 4) = b4 at *
    generalize byt s (8 * k + 5) = b5 at *
    generalize byt s (8 * k + 6) = b6 at *
    generalize byt s (8 * k + 7) = b7 at *
    clear e
    omega
  · rw [show (2 : Int) ^ (8 * 5) = 1099511627776 by decide]
    generalize byt s (8 * k + 0) = b0 at *
    generalize byt s (8 * k + 1) = b1 at *
    generalize byt s (8 * k + 2) = b2 at *
    generalize byt s (8 * k + 3) = b3 at *
    generalize byt s (8 * k + 4) = b4 at *
    generalize byt s (8 * k + 5) = b5 at *
    generalize byt s (8 * k + 6) = b6 at *
    generalize byt s (8 * k + 7) = b7 at *
    clear e
    omega
  · rw [show (2 : Int) ^ (8 * 6) = 281474976710656 by decide]
    generalize byt s (8 * k + 0) = b0 at *
    generalize byt s (8 * k + 1) = b1 at *
    generalize byt s (8 * k + 2) = b2 at *
    generalize byt s (8 * k + 3) = b3 at *
    generalize byt s (8 * k + 4) = b4 at *
    generalize byt s (8 * k + 5) = b5 at *
    generalize byt s (8 * k + 6) = b6 at *
    generalize byt s (8 * k + 7) = b7 at *
    clear e
    omega
  · rw [show (2 : Int) ^ (8 * 7) = 72057594037927936 by decide]
    generalize byt s (8 * k + 0) = b0 at *
    generalize byt s (8 * k + 1) = b1 at *
    generalize byt s (8 * k + 2) = b2 at *
    generalize byt s (8 * k + 3) = b3 at *
    generalize byt s (8 * k + 4) = b4 at *
    generalize byt s (8 * k + 5) = b5 at *
    generalize byt s (8 * k + 6) = b6 at *
    generalize byt s (8 * k + 7) = b7 at *
    clear e
    omega

/-- A string's block. -/
structure Tx (b : Blk) (s : ByteArray) : Prop where
  kk : b.k = 1
  mm : b.m = 0
  ss : b.s = (s.size + 7) / 8 + 1
  w0 : b.W 0 = (s.size : Int)
  ww : ∀ i, i < (s.size + 7) / 8 → b.W (i + 1) = wrd s i 8
  pos : 0 < s.size
  le : s.size ≤ 16384
/-- Being written. -/
structure Tw (b : Blk) (s : ByteArray) (i : Nat) : Prop where
  kk : b.k = 1
  mm : b.m = 0
  ss : b.s = (s.size + 7) / 8 + 1
  w0 : b.W 0 = (s.size : Int)
  ww : ∀ j, j < i → b.W (j + 1) = wrd s j 8
theorem Tw.put {b : Blk} {s : ByteArray} {i : Nat} (h : Tw b s i) : Tw (b.put (i + 1) (wrd s i 8)) s (i + 1) := by
  refine ⟨h.kk, h.mm, h.ss, (put_ne _ _ (by omega)).trans h.w0, fun j hj => ?_⟩
  by_cases e : j = i
  · subst e; exact put_same _ _ _
  · exact (put_ne _ _ (by omega)).trans (h.ww j (by omega))
theorem empty_toList : ByteArray.empty.toList = [] := by rw [ByteArray.toList_eq]; rfl
theorem toList_ne {s : ByteArray} (h : 0 < s.size) : s.toList ≠ [] := by
  rw [ByteArray.toList_eq]
  intro e
  have : s.data.toList.length = 0 := by rw [e]; rfl
  rw [Array.length_toList] at this
  have : s.data.size = s.size := rfl
  omega
theorem toList_ne' {s : ByteArray} (h : 0 < s.size) : s.toList.isEmpty = false := by
  have := toList_ne h
  cases hs : s.toList with
  | nil => exact absurd hs this
  | cons => rfl
end Go.Proofs.Ytnbiofcfphpikaa
