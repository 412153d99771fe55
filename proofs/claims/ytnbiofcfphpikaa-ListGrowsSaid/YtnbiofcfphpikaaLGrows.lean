/-
  ListGrows.
-/
import Derived.Test.YtnbiofcfphpikaaA14
namespace Go.Proofs.Ytnbiofcfphpikaa
open Go.RowKit

theorem spansOf_le (x : Nat) (h : x ≤ 640) : HS.spansOf x ≤ 10 ∧ 1 ≤ HS.spansOf x := by unfold HS.spansOf; split <;> omega
/-- The slice at x has j items, 0, .., j - 1, and room for r. -/
def Gr (w wr : World) (sp : Nat) (x : Int) (r j : Nat) : Prop :=
  ∃ M F t, SpA w wr R0 sp 512 M (if j = 0 then [] else [x]) 0 F ∧ F ≤ 1 + j + 10 * t ∧ 2 ^ t ≤ 2 * r + 1 ∧ j ≤ r ∧ r ≤ 2 * j ∧
    ((j = 0 ∧ x = 0) ∨ ∃ c A : Nat, ∃ f, x = (c : Int) ∧ Sl M c A 0 j r ∧ Ar M A r 1 f ∧ ∀ i, i < j → f i = (i : Int))
theorem Gr.start {w wr : World} {sp : Nat} (h : SpA w wr R0 sp 512 (fun _ => none) [] 0 1) : Gr w wr sp 0 0 0 :=
  ⟨_, 1, 0, h, by omega, by decide, by omega, by omega, .inl ⟨rfl, rfl⟩⟩
def grNew (r j : Nat) : Nat := if j = r then grownTo r (j + 1) else r
theorem pow_le_ten {t r : Nat} (h : 2 ^ t ≤ 2 * r + 1) (hr : r ≤ 300) : t ≤ 9 := by
  apply Classical.byContradiction
  intro hn
  have : 2 ^ 10 ≤ 2 ^ t := Nat.pow_le_pow_right (by omega) (by omega)
  omega
/-- What Append makes of it. -/
theorem Gr.append {w wr : World} {sp j r : Nat} {x : Int} (h : Gr w wr sp x r j) (hj : j < 300) (T : TypeId) :
    Calls Try.prog 46 #[.pointer (some ⟨sp, 0, none⟩), .int .i64 x, .slice (some ⟨wr.heap.size, 0, none⟩) 1 1, .bool false] (wr.alloc (.cells #[.int .i64 j] T)) fun e w' => ∃ c : Nat, e = .returned (.tuple #[.int .i64 c, .bool true]) ∧ (x ≠ (c : Int)) ∧ c ≤ 1048576 ∧
      Hid (∃ M F t, SpA w w' R0 sp 512 M (if j = 0 then [] else [x]) 0 F ∧ F ≤ 1 + (j + 1) + 10 * t ∧ 2 ^ t ≤ 2 * (grNew r j) + 1 ∧ ∃ A : Nat, ∃ f, Sl M c A 0 (j + 1) (grNew r j) ∧ Ar M A (grNew r j) 1 f ∧ ∀ i, i < j + 1 → f i = (i : Int)) := by
  obtain ⟨M, F, t, hS, hF, ht, hjr, hr2, hx⟩ := h
  have hlen : (if j = 0 then ([] : List Int) else [x]).length < 1000000 := by split <;> simp
  have hfre : ∀ {w'' : World} {M' : Mp} {F' : Nat} {held : List Int} {A : Nat} {c lo m most : Nat}, SpA w w'' R0 sp 512 M' held 0 F' → Sl M' c lo A m most → 64 ≤ c ∧ c ≤ 1048576 := by
    intro w'' M' F' held A c lo m most h1 h2
    obtain ⟨B, hB, _⟩ := h2
    have := h1.isBlk hB
    omega
  by_cases hfull : j = r
  · subst hfull
    have hg : grNew j j = grownTo j (j + 1) := by unfold grNew; rw [if_pos rfl]
    have ht9 := pow_le_ten ht (by omega)
    have hgl : grownTo j (j + 1) ≤ 600 := by unfold grownTo; split <;> omega
    have hgl2 : 2 ^ (t + 1) ≤ 2 * (grownTo j (j + 1)) + 1 := by
      unfold grownTo
      rw [Nat.pow_succ]
      split
      · have : j = 0 := by omega
        subst this
        omega
      · cases t with
        | zero => simp; omega
        | succ t => rw [Nat.pow_succ] at ht ⊢; omega
    have hsp := spansOf_le (grownTo j (j + 1) + 1) (by omega)
    have hrd : Rd M x j j (fun i => (i : Int)) := by
      rcases hx with ⟨h0, hx0⟩ | ⟨c, A, f, rfl, hs, ha, hf⟩
      · subst h0 hx0
        have h00 : M 0 = none := by
          cases hb : M 0 with
          | none => rfl
          | some B => have := (hS.isBlk hb).1; omega
        exact Rd.nil M h00 _
      · exact Rd.of hs ha (by omega) (fun i hi => by rw [Nat.zero_add]; exact (hf i hi).symm)
    refine (lAppGrow (cap := 1) (hS.built (.cells #[.int .i64 j] T)) hrd rfl (items1 wr j T) false (by omega) (by omega) (by omega) (by omega) (by omega) hlen).mono ?_
    rintro e w' ⟨c, rfl, A, M', -, hno, -, hs, ha, -, h2⟩
    rw [hg]
    have hadr := hfre h2.out.1.bare hs
    refine ⟨c, rfl, ?_, hadr.2, M', _, t + 1, h2.out.1.bare, by omega, hgl2, A, _, hs, ha, fun i hi => ?_⟩
    · rcases hx with ⟨h0, hx0⟩ | ⟨c0, A0, f, rfl, hs0, _⟩
      · omega
      · have := hs0.ne hno; omega
    · unfold app
      by_cases h : i < j
      · rw [if_pos h]
      · rw [if_neg h, if_pos (by omega)]
        show (j : Int) = (i : Int)
        omega
  · have hg : grNew r j = r := by unfold grNew; rw [if_neg hfull]
    have ht9 : t ≤ 10 := by
      apply Classical.byContradiction
      intro hn
      have : 2 ^ 11 ≤ 2 ^ t := Nat.pow_le_pow_right (by omega) (by omega)
      omega
    rcases hx with ⟨h0, hx0⟩ | ⟨c, A, f, rfl, hs, ha, hf⟩
    · omega
    · refine (lAppIn (cap := 1) (hS.built (.cells #[.int .i64 j] T)) hs ha (by omega) rfl (items1 wr j T) false (by omega) (by omega) (by omega) (by omega) hlen).mono ?_
      rintro e w' ⟨c2, rfl, M', hno, hs2, ha2, -, h2⟩
      rw [hg]
      have hadr := hfre h2.out.1.bare hs2
      refine ⟨c2, rfl, by have := hs.ne hno; omega, hadr.2, M', _, t, h2.out.1.bare, by omega, by omega, A, _, hs2, ha2, fun i hi => ?_⟩
      unfold ovr
      by_cases h : i < j
      · rw [if_neg (by omega)]; exact hf i h
      · rw [if_pos (by omega)]
        show (j : Int) = (i : Int)
        omega

set_option maxRecDepth 100000 in
set_option maxHeartbeats 4000000 in
theorem listGrows_calls (w : World) (m : Nat) (hm : m ≤ 300) :
    Calls Try.prog 16 #[.int .i64 m] w fun e w' => e = .returned (.bool true) ∧ Keeps (fun _ => False) w w' := by
  have HAN := Lib.hid (anchor14_calls w)
  have HNW := Lib.hid (fun w => sNew w 32768 (by omega) (by omega))
  have d1 : decide ((m : Int) < 0) = false := decide_eq_false (by omega)
  have d2 : decide ((300 : Int) < (m : Int)) = false := decide_eq_false (by omega)
  go_enter Try.func16, Try.ntmps16
  go_wp2_with fail
  refine HAN.out.mono ?_
  rintro e w0 ⟨rfl, hk0⟩
  have HK0 := Lib.hid hk0
  clear hk0
  go_wp2_with fail
  refine (HNW.out w0).mono ?_
  rintro e w1 ⟨sp, rfl, h1⟩
  have HST : Hid (Gr w0 w1 sp 0 0 0) := Gr.start h1.out
  clear h1 HNW HAN
  go_wp2
  obtain ⟨wo, rfl⟩ : ∃ wo : World, wo = w1 := ⟨_, rfl⟩
  go_loopw [4, 5, 6] (fun x r i wr => ∃ j : Nat, j ≤ m ∧ i = .int .i64 j ∧ ∃ (c : Int) (rr : Nat), x = .int .i64 c ∧ r = .int .i64 rr ∧ j ≤ rr ∧ rr ≤ 2 * j ∧ Hid (Gr w0 wr sp c rr j)) (fun _ _ i _ => m - (intOf i).toNat)
  case atStart => exact ⟨0, Nat.zero_le _, rfl, 0, 0, rfl, rfl, by omega, by omega, HST.out⟩
  case round =>
    clear HST
    obtain ⟨j, hj, rfl, c, rr, rfl, rfl, hjr, hr2, hD⟩ := hrel
    by_cases hlt : j < m
    · have dl : decide (j < m) = true := decide_eq_true hlt
      have H1 := Lib.hid (hD.out.append (by omega) 3)
      clear hD
      have hcases : ((j : Int) == (rr : Int)) = true ∧ j = rr ∧ 2 * (rr : Int) < (j : Int) + 1 ∧ Hid (((grNew rr j : Nat) : Int) = (j : Int) + 1) ∨ ((j : Int) == (rr : Int)) = true ∧ j = rr ∧ (j : Int) + 1 ≤ 2 * (rr : Int) ∧ Hid (((grNew rr j : Nat) : Int) = 2 * (rr : Int)) ∨ ((j : Int) == (rr : Int)) = false ∧ j ≠ rr ∧ (0 : Int) ≤ (rr : Int) ∧ Hid (((grNew rr j : Nat) : Int) = (rr : Int)) := by
        unfold grNew grownTo
        by_cases h : j = rr
        · subst h
          rw [if_pos rfl]
          by_cases h2 : 2 * j < j + 1
          · rw [if_pos h2]; exact .inl ⟨by simp, rfl, by omega, by show _ = _; omega⟩
          · rw [if_neg h2]; exact .inr (.inl ⟨by simp, rfl, by omega, by show _ = _; omega⟩)
        · rw [if_neg h]; exact .inr (.inr ⟨by simp; omega, h, by omega, rfl⟩)
      have HG2 : Hid (j + 1 ≤ grNew rr j ∧ grNew rr j ≤ 2 * (j + 1)) := by
        show _ ∧ _
        unfold grNew grownTo
        split
        · split <;> omega
        · omega
      generalize grNew rr j = g at *
      have hk1 : (j : Int) ≤ 1 ∨ (1 : Int) < (j : Int) := by omega
      rcases hcases with ⟨b1, e1, i1, E1⟩ | ⟨b1, e1, i1, E1⟩ | ⟨b1, e1, i1, E1⟩
      all_goals
        have E2 := Lib.hid e1
        clear e1
        rcases hk1 with hk1 | hk1
        all_goals try (exfalso; omega)
        all_goals
          go_wp2_with fail
          refine H1.out.mono ?_
          rintro e w2 ⟨c2, rfl, hne, hadr, hD2⟩
          have bne : ((c2 : Int) == c) = false := by simp; omega
          have HWF := Lib.hid (wf_addr hadr)
          have H2 : Hid (Calls Try.prog 24 #[.pointer (some ⟨sp, 0, none⟩), .int .i64 (if 1 < (j : Int) then 1 else (j : Int))] w2 fun e w' => e = .returned (.tuple #[]) ∧ Hid (∃ M F t, SpA w0 w' R0 sp 512 M [] 0 F ∧ F ≤ 1 + (j + 1) + 10 * t ∧ 2 ^ t ≤ 2 * g + 1 ∧ ∃ A : Nat, ∃ f, Sl M c2 A 0 (j + 1) g ∧ Ar M A g 1 f ∧ ∀ i, i < j + 1 → f i = (i : Int))) := by
            obtain ⟨M, F, t, hS, hF, ht, A, f, hs, ha, hf⟩ := hD2.out
            have hd := sDrop hS (if 1 < (j : Int) then 1 else (j : Int)) (if j = 0 then 0 else 1) (by
              by_cases h0 : j = 0
              · subst h0; simp
              · rw [if_neg h0, if_neg h0]
                by_cases h1 : 1 < (j : Int)
                · rw [if_pos h1, List.length_singleton]; omega
                · rw [if_neg h1, List.length_singleton]; omega) (by split <;> simp)
            refine hd.mono ?_
            rintro e w' ⟨rfl, h2⟩
            refine ⟨rfl, M, F, t, ?_, hF, ht, A, f, hs, ha, hf⟩
            have := h2.out.1
            by_cases h0 : j = 0
            · simpa [h0] using this
            · simpa [h0] using this
          clear hD2 hne hadr
          first | rw [if_pos hk1] at H2 | rw [if_neg (by omega)] at H2
          go_wp2_with fail
          refine H2.out.mono ?_
          rintro e w3 ⟨rfl, hD3⟩
          have H3 : Hid (Calls Try.prog 23 #[.pointer (some ⟨sp, 0, none⟩), .int .i64 c2] w3 fun e w' => e = .returned (.tuple #[]) ∧ Hid (Gr w0 w' sp c2 g (j + 1)) ∧ Hid (∀ q, Gr w0 (w'.drewN q) sp c2 g (j + 1)) ∧ Hid (Calls Try.prog 47 #[.pointer (some ⟨sp, 0, none⟩), .int .i64 c2] w' fun e w'' => e = .returned (.tuple #[.int .i64 ((j : Int) + 1), .int .i64 g]) ∧ ∃ q, w'' = w'.drewN q)) := by
            obtain ⟨M, F, t, hS, hF, ht, A, f, hs, ha, hf⟩ := hD3.out
            refine (sHold hS (c2 : Int) HWF.out (by simp)).mono ?_
            rintro e w' ⟨rfl, h2⟩
            have hh := h2.out.1
            rw [List.nil_append] at hh
            have hgr : ∀ q, Gr w0 (w'.drewN q) sp c2 g (j + 1) := fun q => ⟨M, F, t, by rw [if_neg (by omega)]; exact hh.drewN q, hF, ht, HG2.out.1, HG2.out.2, .inr ⟨c2, A, f, rfl, hs, ha, hf⟩⟩
            refine ⟨rfl, hgr 0, hgr, ?_⟩
            have hsz := lSize hh (c2 : Int)
            rw [hs.get.2.2.1, hs.get.2.2.2, show ((j + 1 : Nat) : Int) = (j : Int) + 1 by omega] at hsz
            exact hsz
          clear hD3 H2
          go_wp2_with fail
          refine H3.out.mono ?_
          rintro e w4 ⟨rfl, -, hG, hZ⟩
          have HZ := hZ.out
          rw [E1.out] at HZ
          have HZ' := Lib.hid HZ
          clear HZ hZ H3
          go_wp2_with fail
          refine HZ'.out.mono ?_
          rintro e w5 ⟨rfl, q, rfl⟩
          go_wp2
          go_roundw
          case rel => exact ⟨j + 1, by omega, by go_num, c2, g, rfl, by rw [E1.out], HG2.out.1, HG2.out.2, hG.out q⟩
          case measure => simp [intOf]; omega
    · obtain rfl : j = m := by omega
      have dl : decide (j < j) = false := by simp
      go_wp2
      obtain ⟨wo2, rfl⟩ : ∃ wo : World, wo = wr := ⟨_, rfl⟩
      go_loopw [11] (fun i wr => ∃ k : Nat, k ≤ j ∧ i = .int .i64 k ∧ Hid (Gr w0 wr sp c rr j)) (fun i _ => j - (intOf i).toNat)
      case atStart => exact ⟨0, Nat.zero_le _, rfl, hD⟩
      case round =>
        clear hD
        obtain ⟨k, hk, rfl, hD⟩ := hrel
        by_cases hlt2 : k < j
        · have dk : decide (k < j) = true := decide_eq_true hlt2
          have H1 : Hid (Calls Try.prog 48 #[.pointer (some ⟨sp, 0, none⟩), .int .i64 c, .int .i64 k] wr fun e w' => e = .returned (.tuple #[.int .i64 k, .bool true]) ∧ ∃ q, w' = wr.drewN q) := by
            obtain ⟨M, F, t, hS, hF, ht, hjr, hr2, hx⟩ := hD.out
            rcases hx with ⟨h0, _⟩ | ⟨c, A, f, rfl, hs, ha, hf⟩
            · omega
            · have := lAt hS hs ha k hlt2 (by omega)
              rw [Nat.zero_add, hf k hlt2] at this
              exact this
          have HX : Hid (∀ q, Gr w0 (wr.drewN q) sp c rr j) := by
            obtain ⟨M, F, t, hS, h2⟩ := hD.out
            exact fun q => ⟨M, F, t, hS.drewN q, h2⟩
          clear hD
          go_wp2_with fail
          refine H1.out.mono ?_
          rintro e w2 ⟨rfl, q, rfl⟩
          go_wp2
          go_roundw
          case rel => exact ⟨k + 1, by omega, by go_num, HX.out q⟩
          case measure => simp [intOf]; omega
        · obtain rfl : k = j := by omega
          have dk : decide (k < k) = false := by simp
          have HKF : Hid (Keeps (fun _ => False) w wr) := by
            obtain ⟨M, F, t, hS, h2⟩ := hD.out
            exact HK0.out.trans hS.keeps (fun _ _ h => h)
          clear hD
          go_wp2
          go_ret
          exact ⟨rfl, HKF.out⟩

set_option maxRecDepth 100000 in
set_option maxHeartbeats 4000000 in
theorem listGrows_law (n : Int) (w : World) :
    Calls Try.prog 16 #[.int .i64 n] w fun e w' => e = .returned (.bool true) ∧ Below w.heap.size w w' := by
  have HAN := Lib.hid (anchor14_calls w)
  by_cases h1 : n < 0
  · have d1 : decide (n < 0) = true := decide_eq_true h1
    go_enter Try.func16, Try.ntmps16
    go_wp2_with fail
    refine HAN.out.mono ?_
    rintro e w0 ⟨rfl, hk0⟩
    have HK0 := Lib.hid hk0
    clear hk0
    go_wp2
    go_ret
    exact ⟨rfl, HK0.out.below (fun _ _ h => h)⟩
  have d1 : decide (n < 0) = false := decide_eq_false h1
  by_cases h2 : (300 : Int) < n
  · have d2 : decide ((300 : Int) < n) = true := decide_eq_true h2
    go_enter Try.func16, Try.ntmps16
    go_wp2_with fail
    refine HAN.out.mono ?_
    rintro e w0 ⟨rfl, hk0⟩
    have HK0 := Lib.hid hk0
    clear hk0
    go_wp2
    go_ret
    exact ⟨rfl, HK0.out.below (fun _ _ h => h)⟩
  have d2 : decide ((300 : Int) < n) = false := decide_eq_false h2
  obtain ⟨N, rfl⟩ := Int.eq_ofNat_of_zero_le (by omega : 0 ≤ n)
  exact (listGrows_calls w N (by omega)).mono fun e w' ⟨he, hk⟩ => ⟨he, hk.below (fun _ _ h => h)⟩
end Go.Proofs.Ytnbiofcfphpikaa
