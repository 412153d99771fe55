/-
  Where all spans from some place on are free, there is room.
-/
import Derived.Test.YtnbiofcfphpikaaSorted
namespace Go.Proofs.Ytnbiofcfphpikaa
namespace HS

/-- No block reaches span F. -/
def Front (H : HS) (F : Nat) : Prop := ∀ a, H.room a ≠ 0 → a + H.room a ≤ 64 * F
theorem Front.mono {H : HS} {F G : Nat} (h : Front H F) (hG : F ≤ G) : Front H G := fun a ha => by have := h a ha; omega

theorem Wf.free_above {H : HS} (hW : H.Wf) {F : Nat} (hF : Front H F) (h1 : 1 ≤ F) {s : Nat} (hs : F ≤ s) (hn : s < H.n) : H.cls s = 0 := by
  rcases hW.kind s hn with h | h | h | h
  · exact h
  · have g := hW.lg s hn h
    have hr := room_long hn h
    have := hF (64 * s) (by rw [hr]; omega)
    omega
  · obtain ⟨f, h2, h3, h4, h5⟩ := hW.mo s hn (by omega) h
    have hr := room_long (H := H) (show f < H.n by omega) h4
    have := hF (64 * f) (by rw [hr]; omega)
    omega
  · obtain ⟨c, hc, hcl⟩ := cl_nat h
    have hp := cl_pos hcl
    have hu := hW.uc s hn (by omega)
    rw [hc, Int.toNat_natCast] at hu
    obtain ⟨k, hk⟩ : ∃ k, (H.used s).testBit k = true := by
      apply Classical.byContradiction
      intro hno
      refine hu.1 (Nat.eq_of_testBit_eq fun i => ?_)
      rw [Nat.zero_testBit]
      cases h : (H.used s).testBit i with
      | false => rfl
      | true => exact absurd ⟨i, h⟩ hno
    have hk64 : k < 64 / c := by
      apply Classical.byContradiction
      intro hge
      have : H.used s < 2 ^ k := Nat.lt_of_lt_of_le hu.2 (Nat.pow_le_pow_right (by omega) (by omega))
      rw [Nat.testBit_lt_two_pow this] at hk
      cases hk
    have hr := room_class hn hc hcl hk64
    rw [hk] at hr
    simp only [if_true] at hr
    have := hF (64 * s + k * c) (by rw [hr]; omega)
    omega

theorem cons_hit {cls : Nat → Int} : ∀ {k m : Nat}, 1 ≤ m → m ≤ cons cls k → ∃ j, j < k ∧ cons cls (j + 1) = m
  | 0, m, h1, h => by simp [cons] at h; omega
  | k + 1, m, h1, h => by
    by_cases hk : m ≤ cons cls k
    · obtain ⟨j, hj, e⟩ := cons_hit h1 hk
      exact ⟨j, by omega, e⟩
    · refine ⟨k, by omega, ?_⟩
      simp only [cons] at h ⊢
      by_cases h0 : cls k = 0
      · rw [if_pos h0] at h ⊢; omega
      · rw [if_neg h0] at h; omega

/-- How many spans a block for x words takes at most. -/
def spansOf (x : Nat) : Nat := if 64 < x then (x + 63) / 64 else 1
theorem Wf.alloc_front {H : HS} (hW : H.Wf) {F : Nat} (hF : Front H F) (h1 : 1 ≤ F) {x : Int} (hx1 : 1 ≤ x) (hx2 : x ≤ 16448) (hn : F + spansOf x.toNat ≤ H.n) :
    ∃ a H', H.alloc x = some (a, H') ∧ Adds H H' a (roomOf x.toNat) ∧ Front H' (F + spansOf x.toNat) := by
  have key : ∃ a H', H.alloc x = some (a, H') ∧ a + roomOf x.toNat ≤ 64 * (F + spansOf x.toNat) := by
    unfold alloc
    rw [if_neg (by omega)]
    by_cases hb : 64 < x
    · rw [if_pos hb]
      have es : spansOf x.toNat = (x.toNat + 63) / 64 := by unfold spansOf; rw [if_pos (by omega)]
      have er : roomOf x.toNat = 64 * ((x.toNat + 63) / 64) := by unfold roomOf; rw [if_pos (by omega)]
      rw [es] at hn ⊢
      rw [er]
      generalize hm : (x.toNat + 63) / 64 = m at *
      have hm2 : 2 ≤ m := by omega
      have hge : m ≤ cons H.cls (F + m) := cons_ge (by omega) (fun i hi hi' => hW.free_above hF h1 (by omega) (by omega))
      obtain ⟨j, hj, ej⟩ := cons_hit (by omega) hge
      unfold allocRun
      cases hf : first (fun s => decide (cons H.cls (s + 1) = m)) H.n with
      | none =>
        have := first_none.1 hf j (by omega)
        simp [ej] at this
      | some s =>
        have hs := first_some.1 hf
        have hsj : s ≤ j := by
          rcases Nat.lt_or_ge j s with h | h
          · have := hs.2.2 j h; simp [ej] at this
          · exact h
        have hc := of_decide_eq_true hs.2.1
        have hle := (cons_spec H.cls (s + 1)).1
        exact ⟨_, _, rfl, by omega⟩
    · rw [if_neg hb]
      have es : spansOf x.toNat = 1 := by unfold spansOf; rw [if_neg (by omega)]
      have er : roomOf x.toNat = classOf x.toNat := by unfold roomOf; rw [if_neg (by omega)]
      rw [es] at hn ⊢
      rw [er]
      have hcl := (cl_classOf x.toNat (by omega)).1
      generalize classOf x.toNat = c at *
      have hp := cl_pos hcl
      unfold allocSmall
      cases hf : first (H.hasRoom c) H.n with
      | some s =>
        have hs := first_some.1 hf
        have h2 := hs.2.1
        unfold hasRoom at h2
        simp only [Bool.and_eq_true, decide_eq_true_eq] at h2
        have hsF : s < F := by
          rcases Nat.lt_or_ge s F with h | h
          · exact h
          · have := hW.free_above hF h1 h hs.1
            omega
        have huc := hW.uc s hs.1 (by omega)
        rw [h2.1, Int.toNat_natCast] at huc
        have hlz := lz_spec huc.2 h2.2 (by omega)
        have := cl_div hcl hlz.1
        refine ⟨_, _, rfl, ?_⟩
        unfold placeAt
        omega
      | none =>
        have hFree : H.cls F = 0 := hW.free_above hF h1 (Nat.le_refl _) (by omega)
        cases hg : first H.isFree H.n with
        | none =>
          have := first_none.1 hg F (by omega)
          unfold isFree at this
          simp [hFree] at this
        | some f =>
          have hs := first_some.1 hg
          have hfF : f ≤ F := by
            rcases Nat.lt_or_ge F f with h | h
            · have := hs.2.2 F h; unfold isFree at this; simp [hFree] at this
            · exact h
          have hf0 : H.cls f = 0 := of_decide_eq_true hs.2.1
          have hu := hW.un f hs.1 (by omega)
          refine ⟨_, _, rfl, ?_⟩
          unfold placeAt
          rw [hu, lz_zero]
          omega
  obtain ⟨a, H', ha, hle⟩ := key
  have hadd := (hW.alloc_adds ha).2.2
  refine ⟨a, H', ha, hadd, fun b hb => ?_⟩
  by_cases e : b = a
  · subst e; rw [hadd.is]; exact hle
  · rw [hadd.other b e] at hb ⊢
    have := hF b hb
    omega
end HS
end Go.Proofs.Ytnbiofcfphpikaa
