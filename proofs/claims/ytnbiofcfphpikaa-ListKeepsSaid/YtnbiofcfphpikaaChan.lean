/-
  Channels as plain data.
-/
import Derived.Test.YtnbiofcfphpikaaSpA
namespace Go.Proofs.Ytnbiofcfphpikaa
open Go.RowKit

theorem ring_at {P b i : Nat} (hb : b < P) (hi : i < P) : (b + i) % P < P ∧ ((b + i) % P + P - b) % P = i := by
  refine ⟨Nat.mod_lt _ (by omega), ?_⟩
  by_cases h : b + i < P
  · rw [Nat.mod_eq_of_lt h, show b + i + P - b = i + P by omega, Nat.add_mod_right, Nat.mod_eq_of_lt hi]
  · have e : (b + i) % P = b + i - P := by rw [Nat.mod_eq_sub_mod (show b + i ≥ P by omega), Nat.mod_eq_of_lt (by omega)]
    rw [e, show b + i - P + P - b = i by omega, Nat.mod_eq_of_lt hi]
theorem ring_inj {P b j i : Nat} (hb : b < P) (hj : j < P) (h : (j + P - b) % P = i) : j = (b + i) % P := by
  subst h
  by_cases h : b ≤ j
  · rw [show j + P - b = j - b + P by omega, Nat.add_mod_right, Nat.mod_eq_of_lt (show j - b < P by omega), show b + (j - b) = j by omega, Nat.mod_eq_of_lt hj]
  · rw [Nat.mod_eq_of_lt (show j + P - b < P by omega), show b + (j + P - b) = j + P by omega, Nat.add_mod_right, Nat.mod_eq_of_lt hj]

/-- The words of a channel of P places: its items l from place b on; cl: is it closed? -/
structure ChanB (B : Blk) (P b : Nat) (l : List Int) (cl : Int) : Prop where
  s : B.s = 4 + P
  w0 : B.W 0 = cl
  w1 : B.W 1 = (b : Int)
  w2 : B.W 2 = (l.length : Int)
  w3 : B.W 3 = (P : Int)
  it : ∀ j, j < P → B.W (4 + j) = l.getD ((j + P - b) % P) 0
  len : l.length ≤ P
  beg : b < P ∨ P = 0 ∧ b = 0
/-- The channel at w. -/
def Chan (M : Mp) (w P : Nat) (k m : Int) (b : Nat) (l : List Int) (cl : Int) : Prop := ∃ B : Blk, M w = some B ∧ B.k = k ∧ B.m = m ∧ ChanB B P b l cl

namespace ChanB
variable {B : Blk} {P b : Nat} {l : List Int} {cl : Int}
theorem item (h : ChanB B P b l cl) {i : Nat} (hi : i < l.length) : B.W (4 + (b + i) % P) = l.getD i 0 := by
  have hP := h.len
  have hb : b < P := by have := h.beg; omega
  have hr := ring_at hb (show i < P by omega)
  rw [h.it _ hr.1, hr.2]
theorem push (h : ChanB B P b l cl) (hl : l.length < P) (v : Int) : ChanB ((B.put (4 + (b + l.length) % P) v).put 2 ((l.length : Int) + 1)) P b (l ++ [v]) cl := by
  have hb : b < P := by have := h.beg; omega
  have hr := ring_at hb hl
  refine ⟨h.s, ?_, ?_, ?_, ?_, fun j hj => ?_, by simp; omega, h.beg⟩
  · rw [put_ne _ _ (by omega), put_ne _ _ (by omega)]; exact h.w0
  · rw [put_ne _ _ (by omega), put_ne _ _ (by omega)]; exact h.w1
  · rw [put_same]; simp
  · rw [put_ne _ _ (by omega), put_ne _ _ (by omega)]; exact h.w3
  · rw [put_ne _ _ (by omega)]
    by_cases e : j = (b + l.length) % P
    · subst e
      rw [put_same, hr.2]; simp
    · rw [put_ne _ _ (by omega), h.it j hj]
      have hne : (j + P - b) % P ≠ l.length := fun e2 => e (ring_inj hb hj e2)
      rw [List.getD_eq_getElem?_getD, List.getD_eq_getElem?_getD]
      congr 1
      by_cases hlt : (j + P - b) % P < l.length
      · rw [List.getElem?_append_left hlt]
      · rw [List.getElem?_eq_none (by omega), List.getElem?_eq_none (by simp; omega)]
theorem shift {x : Int} (h : ChanB B P b (x :: l) cl) : ChanB (((B.put (4 + (b + 0) % P) 0).put 1 (((b + 1) % P : Nat) : Int)).put 2 (l.length : Int)) P ((b + 1) % P) l cl := by
  have hl := h.len
  simp only [List.length_cons] at hl
  have hb : b < P := by have := h.beg; omega
  have hb1 : (b + 1) % P < P := Nat.mod_lt _ (by omega)
  rw [Nat.add_zero, Nat.mod_eq_of_lt hb]
  refine ⟨h.s, ?_, ?_, ?_, ?_, fun j hj => ?_, by omega, .inl hb1⟩
  · rw [put_ne _ _ (by omega), put_ne _ _ (by omega), put_ne _ _ (by omega)]; exact h.w0
  · rw [put_ne _ _ (by omega), put_same]
  · rw [put_same]
  · rw [put_ne _ _ (by omega), put_ne _ _ (by omega), put_ne _ _ (by omega)]; exact h.w3
  · rw [put_ne _ _ (by omega), put_ne _ _ (by omega)]
    by_cases e : j = b
    · subst e
      rw [put_same]
      have e2 : (j + P - (j + 1) % P) % P = P - 1 := by
        by_cases h1 : j + 1 < P
        · rw [Nat.mod_eq_of_lt h1, show j + P - (j + 1) = P - 1 by omega, Nat.mod_eq_of_lt (by omega)]
        · rw [show j + 1 = P by omega, Nat.mod_self, show j + P - 0 = (P - 1) + P by omega, Nat.add_mod_right, Nat.mod_eq_of_lt (by omega)]
      rw [e2, List.getD_eq_getElem?_getD, List.getElem?_eq_none (by omega)]
      rfl
    · rw [put_ne _ _ (by omega), h.it j hj]
      have e2 : (j + P - b) % P = (j + P - (b + 1) % P) % P + 1 := by
        by_cases h1 : b + 1 < P
        · rw [Nat.mod_eq_of_lt h1]
          by_cases h2 : b < j
          · rw [show j + P - b = (j - b) + P by omega, show j + P - (b + 1) = (j - b - 1) + P by omega, Nat.add_mod_right, Nat.add_mod_right, Nat.mod_eq_of_lt (by omega), Nat.mod_eq_of_lt (by omega)]
            omega
          · rw [Nat.mod_eq_of_lt (show j + P - b < P by omega), Nat.mod_eq_of_lt (show j + P - (b + 1) < P by omega)]
            omega
        · rw [show b + 1 = P by omega, Nat.mod_self, show j + P - 0 = j + P by omega, Nat.add_mod_right, Nat.mod_eq_of_lt hj, show j + P - b = j + 1 by omega, Nat.mod_eq_of_lt (by omega)]
      rw [e2]
      simp
theorem close (h : ChanB B P b l cl) : ChanB (B.put 0 1) P b l 1 := by
  refine ⟨h.s, put_same _ _ _, ?_, ?_, ?_, fun j hj => ?_, h.len, h.beg⟩
  · exact (put_ne _ _ (by omega)).trans h.w1
  · exact (put_ne _ _ (by omega)).trans h.w2
  · exact (put_ne _ _ (by omega)).trans h.w3
  · exact (put_ne _ _ (by omega)).trans (h.it j hj)
end ChanB
theorem chan_new (k m : Int) (P : Nat) : ChanB (Blk.put ⟨k, 4 + P, m, fun _ => 0⟩ 3 (P : Int)) P 0 [] 0 := by
  refine ⟨rfl, put_ne _ _ (by omega), ?_, ?_, put_same _ _ _, fun j hj => ?_, Nat.zero_le _, by omega⟩
  · exact put_ne _ _ (by omega)
  · exact put_ne _ _ (by omega)
  · exact (put_ne _ _ (by omega)).trans (by simp)
namespace Chan
variable {M : Mp} {w P : Nat} {k m : Int} {b : Nat} {l : List Int} {cl : Int}
theorem get (h : Chan M w P k m b l cl) : mget M w 0 = cl ∧ mget M w 1 = (b : Int) ∧ mget M w 2 = (l.length : Int) ∧ mget M w 3 = (P : Int) := by
  obtain ⟨B, hB, -, -, hC⟩ := h
  unfold mget
  rw [look_nat, hB]
  unfold bget
  have := hC.s
  refine ⟨?_, ?_, ?_, ?_⟩
  · simp only []; rw [if_pos (by omega)]; exact hC.w0
  · simp only []; rw [if_pos (by omega)]; exact hC.w1
  · simp only []; rw [if_pos (by omega)]; exact hC.w2
  · simp only []; rw [if_pos (by omega)]; exact hC.w3
theorem item (h : Chan M w P k m b l cl) {i : Nat} (hi : i < l.length) : mget M w (4 + (((b + i) % P : Nat) : Int)) = l.getD i 0 := by
  obtain ⟨B, hB, -, -, hC⟩ := h
  unfold mget
  rw [look_nat, hB]
  unfold bget
  have hs := hC.s
  have hP := hC.len
  have := Nat.mod_lt (b + i) (show 0 < P by omega)
  simp only []
  rw [if_pos (by omega), show (4 + (((b + i) % P : Nat) : Int)).toNat = 4 + (b + i) % P by omega]
  exact hC.item hi
end Chan
end Go.Proofs.Ytnbiofcfphpikaa
