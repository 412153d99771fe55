/-
  Words that are strings: New and Bytes of any string.
-/
import Derived.Test.YtnbiofcfphpikaaA13
namespace Go.Proofs.Ytnbiofcfphpikaa
open Go.RowKit

/-- The word x is the string s. -/
def TxW (M : Mp) (x : Nat) (s : ByteArray) : Prop := (s.size = 0 ∧ x = 0) ∨ ∃ b, M x = some b ∧ Tx b s
theorem TxW.other {M M' : Mp} {x : Nat} {s : ByteArray} (h : TxW M x s) (ho : ∀ c, M c ≠ none → M' c = M c) : TxW M' x s := by
  rcases h with h | ⟨b, hb, hT⟩
  · exact .inl h
  · exact .inr ⟨b, (ho x (by rw [hb]; simp)).trans hb, hT⟩
theorem TxW.zero {M : Mp} {x : Nat} {s : ByteArray} (h : TxW M x s) (h0 : M 0 = none) : (s.size = 0 → x = 0) ∧ (0 < s.size → M x ≠ none ∧ x ≠ 0) := by
  rcases h with ⟨h1, h2⟩ | ⟨b, hb, hT⟩
  · exact ⟨fun _ => h2, fun h => by omega⟩
  · refine ⟨fun h => by have := hT.pos; omega, fun _ => ⟨by rw [hb]; simp, ?_⟩⟩
    rintro rfl
    rw [h0] at hb; cases hb
theorem empty_of_size {s : ByteArray} (h : s.size = 0) : s = ByteArray.empty := by
  obtain ⟨d⟩ := s
  have hd : d.size = 0 := h
  have : d = #[] := Array.eq_empty_of_size_eq_zero hd
  subst this
  rfl
theorem SpA.no0 {w wr : World} {R : Nat → Prop} {sp N : Nat} {M : Mp} {held : List Int} {n F : Nat} (h : SpA w wr R sp N M held n F) : M 0 = none := by
  cases hb : M 0 with
  | none => rfl
  | some B => have := (h.isBlk hb).1; omega
theorem tBytesW {w wr : World} {R : Nat → Prop} {sp N : Nat} {M : Mp} {held : List Int} {n F : Nat} (h : SpA w wr R sp N M held n F) {x : Nat} {s : ByteArray} (hx : TxW M x s) (ca : Option Addr) (cl cc : Nat) :
    Calls Try.prog 35 #[.pointer (some ⟨sp, 0, none⟩), .slice ca cl cc, .int .i64 x] wr fun e w' => e = .returned (.string s) ∧ Keeps (fun _ => False) wr w' := by
  rcases hx with ⟨h0, rfl⟩ | ⟨b, hb, hT⟩
  · rw [empty_of_size h0]
    refine (tBytesNone h (0 : Int) (by rw [← h.no0]; rfl) (by decide) ca cl cc).mono ?_
    rintro e w' ⟨rfl, q, rfl⟩
    exact ⟨rfl, (Keeps.refl _ wr).drewN q⟩
  · exact tBytes h x hb hT ca cl cc
/-- New of any string that has room. -/
theorem tNewW {w wr : World} {R : Nat → Prop} {sp N : Nat} {M : Mp} {held : List Int} {n F : Nat} (h : SpA w wr R sp N M held n F) (s : ByteArray) (hs : s.size ≤ 16384) (G : Nat) (hG : HS.spansOf ((s.size + 7) / 8 + 1 + 1) ≤ G) (hF : F + G ≤ N) :
    Calls Try.prog 34 #[.pointer (some ⟨sp, 0, none⟩), .string s] wr fun e w' => ∃ x : Nat, e = .returned (.tuple #[.int .i64 x, .bool true]) ∧ x ≤ 1048576 ∧ x % 2 = 0 ∧
      Hid (∃ M', SpA w w' R sp N M' held n (F + G) ∧ Keeps (fun k => ¬ R k) wr w' ∧ TxW M' x s ∧ (∀ c, M c ≠ none → M' c = M c) ∧ (∀ c B, M' c = some B → M c = some B ∨ (c = x ∧ 0 < s.size ∧ B.k = 1)) ∧ M x = none) := by
  by_cases h0 : s.size = 0
  · refine (tEmpty sp wr s h0).mono ?_
    rintro e w' ⟨rfl, rfl⟩
    exact ⟨0, rfl, by omega, by omega, M, h.front (by omega), Keeps.refl _ _, .inl ⟨h0, rfl⟩, fun _ _ => rfl, fun c B hB => .inl hB, h.no0⟩
  · refine (tNew h s (by omega) hs (by omega)).mono ?_
    rintro e w' ⟨a, rfl, hno, h2⟩
    obtain ⟨M', hS, hK, ⟨b, hb, hT⟩, ho⟩ := h2.out
    have := hS.isBlk hb
    refine ⟨a, rfl, this.2.2.2.2, this.2.1, M', hS.front (by omega), hK, .inr ⟨b, hb, hT⟩, fun c hc => ho c (fun e => hc (e ▸ hno)), fun c B hB => ?_, hno⟩
    by_cases e : c = a
    · subst e
      rw [hb] at hB
      cases hB
      exact .inr ⟨rfl, by omega, hT.kk⟩
    · rw [ho c e] at hB; exact .inl hB
/-- Blocks of data alone: what is held is what lives. -/
theorem mlive_data {M : Mp} {held : List Int} (hd : ∀ c B, M c = some B → B.k = 1) (c : Nat) : MLive M held c ↔ (c : Int) ∈ held ∧ M c ≠ none := by
  constructor
  · intro h
    cases h with
    | root h1 h2 => exact ⟨h1, h2⟩
    | step _ hb _ hm _ _ =>
      rw [hd _ _ hb] at hm
      unfold mayRef at hm
      simp at hm
  · rintro ⟨h1, h2⟩; exact .root h1 h2
theorem mlive_ne {M : Mp} {held : List Int} (c : Nat) : mlive M held c ≠ none ↔ MLive M held c := by
  constructor
  · intro hn
    apply Classical.byContradiction
    intro hno
    exact hn (mlive_no hno)
  · intro hl; rw [mlive_yes hl]; exact hl.isSome
theorem append_size (a b : ByteArray) : (a ++ b).size = a.size + b.size := ByteArray.size_append
def rep (a b : ByteArray) : Nat → ByteArray
  | 0 => ByteArray.empty
  | k + 1 => rep a b k ++ (a ++ b)
theorem rep_size (a b : ByteArray) (k : Nat) : (rep a b k).size = k * (a.size + b.size) := by
  induction k with
  | zero => simp [rep]
  | succ k ih => rw [rep, append_size, append_size, ih, Nat.succ_mul]
theorem rep_assoc (a b : ByteArray) (k : Nat) : rep a b k ++ a ++ b = rep a b (k + 1) := by
  rw [rep]; exact ByteArray.append_assoc
end Go.Proofs.Ytnbiofcfphpikaa
