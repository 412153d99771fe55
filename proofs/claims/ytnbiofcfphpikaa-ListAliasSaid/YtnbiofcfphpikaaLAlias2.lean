/-
  ListAlias, where both parts may be cut.
-/
import Derived.Test.YtnbiofcfphpikaaLAlias
namespace Go.Proofs.Ytnbiofcfphpikaa
open Go.RowKit

def alF (at_ : Nat) (v : Int) : Nat → Int := fun j => if j = at_ then v else 0
/-- Behind Put: the whole reads so. -/
def AlS (w wr : World) (sp c : Nat) (m at_ : Nat) (v : Int) : Prop := ∃ M F A held, SpA w wr R0 sp 128 M held 0 F ∧ Sl M c A 0 m m ∧ Ar M A m 1 (alF at_ v)

set_option maxRecDepth 100000 in
set_option maxHeartbeats 8000000 in
theorem alias_good (w : World) (m : Nat) (hm : m ≤ 100) (A0 A1 B0 B1 : Nat) (i v : Int) (ha01 : A0 ≤ A1) (ha1 : A1 ≤ m) (hb01 : B0 ≤ B1) (hb1 : B1 ≤ m) :
    Calls Try.prog 18 #[.int .i64 m, .agg #[.int .i64 A0, .int .i64 A1], .agg #[.int .i64 B0, .int .i64 B1], .int .i64 i, .int .i64 v] w fun e w' => e = .returned (.bool true) ∧ Keeps (fun _ => False) w w' := by
  obtain ⟨a0, ea0⟩ : ∃ a0 : Int, a0 = A0 := ⟨_, rfl⟩
  obtain ⟨a1, ea1⟩ : ∃ a1 : Int, a1 = A1 := ⟨_, rfl⟩
  obtain ⟨b0, eb0⟩ : ∃ b0 : Int, b0 = B0 := ⟨_, rfl⟩
  obtain ⟨b1, eb1⟩ : ∃ b1 : Int, b1 = B1 := ⟨_, rfl⟩
  rw [← ea0, ← ea1, ← eb0, ← eb1]
  have hsz : (w.alloc (.cells #[.int .i64 a0, .int .i64 a1] 79)).heap.size = w.heap.size + 1 := by simp
  have hc1 : ((w.alloc (.cells #[.int .i64 a0, .int .i64 a1] 79)).alloc (.cells #[.int .i64 b0, .int .i64 b1] 79)).cell? ⟨w.heap.size, 0, none⟩ = some (.int .i64 a0) ∧ ((w.alloc (.cells #[.int .i64 a0, .int .i64 a1] 79)).alloc (.cells #[.int .i64 b0, .int .i64 b1] 79)).cell? ⟨w.heap.size, 1, none⟩ = some (.int .i64 a1) :=
    cell_keep2 ((Keeps.refl _ _).alloc _) ⟨World.cell?_alloc_new w #[.int .i64 a0, .int .i64 a1] _ 0, World.cell?_alloc_new w #[.int .i64 a0, .int .i64 a1] _ 1⟩
  have hc2 : ((w.alloc (.cells #[.int .i64 a0, .int .i64 a1] 79)).alloc (.cells #[.int .i64 b0, .int .i64 b1] 79)).cell? ⟨w.heap.size + 1, 0, none⟩ = some (.int .i64 b0) ∧ ((w.alloc (.cells #[.int .i64 a0, .int .i64 a1] 79)).alloc (.cells #[.int .i64 b0, .int .i64 b1] 79)).cell? ⟨w.heap.size + 1, 1, none⟩ = some (.int .i64 b1) := by
    rw [← hsz]
    exact ⟨World.cell?_alloc_new (w.alloc (.cells #[.int .i64 a0, .int .i64 a1] 79)) #[.int .i64 b0, .int .i64 b1] _ 0, World.cell?_alloc_new (w.alloc (.cells #[.int .i64 a0, .int .i64 a1] 79)) #[.int .i64 b0, .int .i64 b1] _ 1⟩
  have hkk : Keeps (fun _ => False) w ((w.alloc (.cells #[.int .i64 a0, .int .i64 a1] 79)).alloc (.cells #[.int .i64 b0, .int .i64 b1] 79)) := ((Keeps.refl _ w).alloc _).alloc _
  have HC1 := Lib.hid hc1
  have HC2 := Lib.hid hc2
  have HKK := Lib.hid hkk
  clear hsz hc1 hc2 hkk
  generalize hW : (w.alloc (.cells #[.int .i64 a0, .int .i64 a1] 79)).alloc (.cells #[.int .i64 b0, .int .i64 b1] 79) = W at *
  have HWW := Lib.hid hW
  clear hW
  have HAN := Lib.hid (anchor14_calls W)
  rw [← HWW.out] at HAN
  have HNW := Lib.hid (fun w => sNew w 8192 (by omega) (by omega))
  have d1 : decide ((m : Int) < 0) = false := decide_eq_false (by omega)
  have d2 : decide ((100 : Int) < (m : Int)) = false := decide_eq_false (by omega)
  subst ea0 ea1 eb0 eb1
  have HCA : Hid (cutOk (A0 : Int) (A1 : Int) m = true) := by
    show _ = _
    unfold cutOk
    rw [decide_eq_true (by omega), decide_eq_true (by omega), decide_eq_true (by omega)]; rfl
  have HCB : Hid (cutOk (B0 : Int) (B1 : Int) m = true) := by
    show _ = _
    unfold cutOk
    rw [decide_eq_true (by omega), decide_eq_true (by omega), decide_eq_true (by omega)]; rfl
  have t0 : (0 : Int) ≤ (A0 : Int) := by omega
  have t1 : (A0 : Int) ≤ (A1 : Int) := by omega
  have t2 : (A1 : Int) ≤ (m : Int) := by omega
  have t3 : (0 : Int) ≤ (B0 : Int) := by omega
  have t4 : (B0 : Int) ≤ (B1 : Int) := by omega
  have t5 : (B1 : Int) ≤ (m : Int) := by omega
  have hi3 : i < 0 ∨ 0 ≤ i ∧ (A1 : Int) - (A0 : Int) ≤ i ∨ 0 ≤ i ∧ i < (A1 : Int) - (A0 : Int) := by omega
  go_enter Try.func18, Try.ntmps18
  go_wp2_with fail
  refine HAN.out.mono ?_
  rintro e w0 ⟨rfl, hk0⟩
  rw [HWW.out] at hk0
  have HK0 := Lib.hid hk0
  clear hk0
  go_wp2_with fail
  refine (HNW.out w0).mono ?_
  rintro e w1 ⟨sp, rfl, h1⟩
  have H1 := Lib.hid (lNew h1.out m false (by omega) (by have := spansOf_leA (m + 1) (by omega); omega) (by simp))
  clear h1
  go_wp2_with fail
  refine H1.out.mono ?_
  rintro e w2 ⟨c, rfl, A, M1, -, -, hcA, hs, ha, -, h2⟩
  have hadr : c ≤ 1048576 := by obtain ⟨B, hB, _⟩ := hs; exact (h2.out.1.isBlk hB).2.2.2.2
  have H2 := Lib.hid (sHold h2.out.1 (c : Int) (wf_addr hadr) (by simp))
  have HSL := Lib.hid hs
  have HA := Lib.hid ha
  have HCA2 := Lib.hid hcA
  have HFF : Hid (HS.spansOf (m + 1) ≤ 10) := (spansOf_leA (m + 1) (by omega)).1
  clear h2 hs ha H1 hadr hcA
  go_wp2_with fail
  refine H2.out.mono ?_
  rintro e w3 ⟨rfl, h3⟩
  have hcc := cell_keep2 (HK0.out.trans h3.out.1.keeps (fun _ _ h => h)) HC1.out
  have e0 := hcc.1
  have e1 := hcc.2
  have H3 := Lib.hid (lCutAny h3.out.1 HSL.out HA.out (A0 : Int) (A1 : Int) _ HCA.out (by have := HFF.out; omega) (by simp))
  clear h3 hcc H2
  go_wp2_with fail
  refine H3.out.mono ?_
  rintro e w4 ⟨x, rfl, hx, M2, hs2, ho2, h4⟩
  have H4 := Lib.hid (sHold h4.out.1 (x : Int) (wf_addr hx) (by simp))
  have hs' := HSL.out.other (ho2 c (by obtain ⟨B, hB, _⟩ := HSL.out; rw [hB]; simp))
  have ha' := HA.out.other (ho2 A (by obtain ⟨B, hB, _⟩ := HA.out; rw [hB]; simp))
  have HS2 := Lib.hid hs'
  have HA2 := Lib.hid ha'
  have hsx := (hs2 trivial).2
  rw [Int.toNat_natCast, Int.toNat_natCast] at hsx
  have HSX := Lib.hid hsx
  clear e0 e1 h4 hs' ha' ho2 hs2 H3 hx hsx
  go_wp2_with fail
  refine H4.out.mono ?_
  rintro e w5 ⟨rfl, h5⟩
  have hcc := cell_keep2 (HK0.out.trans h5.out.1.keeps (fun _ _ h => h)) HC2.out
  have e0 := hcc.1
  have e1 := hcc.2
  have H5 := Lib.hid (lCutAny h5.out.1 HS2.out HA2.out (B0 : Int) (B1 : Int) _ HCB.out (by have := HFF.out; omega) (by simp))
  clear h5 hcc H4
  go_wp2_with fail
  refine H5.out.mono ?_
  rintro e w6 ⟨y, rfl, hy, M3, hs3, ho3, h6⟩
  have hsy := (hs3 trivial).2
  rw [Int.toNat_natCast, Int.toNat_natCast] at hsy
  have HSY := Lib.hid hsy
  have hs' := HS2.out.other (ho3 c (by obtain ⟨B, hB, _⟩ := HS2.out; rw [hB]; simp))
  have ha' := HA2.out.other (ho3 A (by obtain ⟨B, hB, _⟩ := HA2.out; rw [hB]; simp))
  have hx' := HSX.out.other (ho3 x (by obtain ⟨B, hB, _⟩ := HSX.out; rw [hB]; simp))
  have HS3 := Lib.hid hs'
  have HA3 := Lib.hid ha'
  have HSX3 := Lib.hid hx'
  have hK6 := HK0.out.trans h6.out.1.keeps (fun _ _ h => h)
  have hcc := cell_keep2 hK6 HC1.out
  have hcc2 := cell_keep2 hK6 HC2.out
  have HK6 := Lib.hid hK6
  clear e0 e1 hs' ha' hx' hsy hs3 ho3 hy hK6 H5
  have e0 := hcc.1
  have e1 := hcc.2
  have e2 := hcc2.1
  have e3 := hcc2.2
  clear hcc hcc2
  rcases hi3 with hi | hi | hi
  · have H6 := Lib.hid (lPutNo h6.out.1 (x : Int) i v (.inl hi))
    have HKF : Hid (∀ q, Keeps (fun _ => False) w (w6.drewN q)) := fun q => (HKK.out.trans HK6.out (fun _ _ h => h)).drewN q
    clear h6
    go_wp2_with fail
    refine H6.out.mono ?_
    rintro e w7 ⟨rfl, q, rfl⟩
    go_wp2
    go_ret
    exact ⟨rfl, HKF.out q⟩
  · have H6 := Lib.hid (lPutNo h6.out.1 (x : Int) i v (.inr (by rw [HSX3.out.get.2.2.1]; omega)))
    have HKF : Hid (∀ q, Keeps (fun _ => False) w (w6.drewN q)) := fun q => (HKK.out.trans HK6.out (fun _ _ h => h)).drewN q
    have f0 : decide (i < 0) = false := decide_eq_false (by omega)
    have f1 : decide ((A1 : Int) - (A0 : Int) ≤ i) = true := decide_eq_true (by omega)
    have E0 : ∀ q, (w6.drewN q).cell? ⟨w.heap.size, 0, none⟩ = some (.int .i64 A0) := fun q => e0
    have E1 : ∀ q, (w6.drewN q).cell? ⟨w.heap.size, 1, none⟩ = some (.int .i64 A1) := fun q => e1
    clear h6
    go_wp2_with fail
    refine H6.out.mono ?_
    rintro e w7 ⟨rfl, q, rfl⟩
    go_wp2
    go_ret
    exact ⟨rfl, HKF.out q⟩
  · obtain ⟨I, rfl⟩ := Int.eq_ofNat_of_zero_le hi.1
    have hI : I < A1 - A0 := by omega
    have HI := Lib.hid hI
    have hI2 : (I : Int) < 100 := by omega
    have hA2 : (A0 : Int) ≤ 100 := by omega
    have hB2 : (B0 : Int) ≤ 100 := by omega
    have H6 := Lib.hid (lPut h6.out.1 HSX3.out HA3.out I v hI (by omega))
    have HNA : Hid (c ≠ A ∧ y ≠ A) := by
      refine ⟨HCA2.out, ?_⟩
      rintro rfl
      obtain ⟨B, hB, _, hs4, hm4, _⟩ := HSY.out
      obtain ⟨B', hB', _, hs5, hm5, _⟩ := HA3.out
      rw [hB] at hB'
      cases hB'
      omega
    clear h6 hi hI
    go_wp2_with fail
    refine H6.out.mono ?_
    rintro e w7 ⟨rfl, h7⟩
    clear e0 e1 e2 e3
    have hK7 := HK0.out.trans h7.out.1.keeps (fun _ _ h => h)
    have hcc := cell_keep2 hK7 HC1.out
    have e0 := hcc.1
    have e1 := hcc.2
    have har := (HA3.out.put (A0 + I) v).congr (g := alF (A0 + I) v) (fun j _ => rfl)
    have HST : Hid (∃ M F held, SpA w0 w7 R0 sp 128 M held 0 F ∧ Sl M c A 0 m m ∧ Ar M A m 1 (alF (A0 + I) v) ∧ Sl M y A B0 (B1 - B0) (m - B0)) :=
      ⟨_, _, _, h7.out.1, HS3.out.other (mset_ne _ _ _ HNA.out.1), har, HSY.out.other (mset_ne _ _ _ HNA.out.2)⟩
    clear h7 hK7 hcc har H6
    go_wp2
    obtain ⟨wo, rfl⟩ : ∃ wo : World, wo = w7 := ⟨_, rfl⟩
    clear e0 e1
    go_loopw [19] (fun i wr => ∃ k : Nat, k ≤ m ∧ i = .int .i64 k ∧ Hid (∃ M F held, SpA w0 wr R0 sp 128 M held 0 F ∧ Sl M c A 0 m m ∧ Ar M A m 1 (alF (A0 + I) v) ∧ Sl M y A B0 (B1 - B0) (m - B0))) (fun i _ => m - (intOf i).toNat)
    case atStart => exact ⟨0, Nat.zero_le _, rfl, HST.out⟩
    case round =>
      clear HST
      obtain ⟨k, hk, rfl, hD⟩ := hrel
      by_cases hlt : k < m
      · have dk : decide (k < m) = true := decide_eq_true hlt
        obtain ⟨M, F, held, hS, hc, ha, hy⟩ := hD.out
        have HX : Hid (∀ q, ∃ M F held, SpA w0 (wr.drewN q) R0 sp 128 M held 0 F ∧ Sl M c A 0 m m ∧ Ar M A m 1 (alF (A0 + I) v) ∧ Sl M y A B0 (B1 - B0) (m - B0)) := fun q => ⟨M, F, held, hS.drewN q, hc, ha, hy⟩
        have H7 := lAt hS hc ha k hlt (by omega)
        rw [Nat.zero_add] at H7
        by_cases hka : k = A0 + I
        · have ev : alF (A0 + I) v k = v := by unfold alF; rw [if_pos hka]
          rw [ev] at H7
          have H7' := Lib.hid H7
          have bk : ((k : Int) == (A0 : Int) + (I : Int)) = true := by simp; omega
          clear H7 hD hS hc ha hy ev hka
          go_wp2_with fail
          refine H7'.out.mono ?_
          rintro e w8 ⟨rfl, q, rfl⟩
          go_wp2
          go_roundw
          case rel => exact ⟨k + 1, by omega, by go_num, HX.out q⟩
          case measure => simp [intOf]; omega
        · have ev : alF (A0 + I) v k = 0 := by unfold alF; rw [if_neg hka]
          rw [ev] at H7
          have H7' := Lib.hid H7
          have bk : ((k : Int) == (A0 : Int) + (I : Int)) = false := by simp; omega
          clear H7 hD hS hc ha hy ev hka
          go_wp2_with fail
          refine H7'.out.mono ?_
          rintro e w8 ⟨rfl, q, rfl⟩
          go_wp2
          go_roundw
          case rel => exact ⟨k + 1, by omega, by go_num, HX.out q⟩
          case measure => simp [intOf]; omega
      · obtain rfl : k = m := by omega
        have dk : decide (k < k) = false := by simp
        obtain ⟨M, F, held, hS, hc, ha, hy⟩ := hD.out
        have hKr := HK0.out.trans hS.keeps (fun _ _ h => h)
        have hcc := cell_keep2 hKr HC2.out
        have e2 := hcc.1
        have e3 := hcc.2
        have E2 : ∀ q, (wr.drewN q).cell? ⟨w.heap.size + 1, 0, none⟩ = some (.int .i64 B0) := fun q => e2
        have E3 : ∀ q, (wr.drewN q).cell? ⟨w.heap.size + 1, 1, none⟩ = some (.int .i64 B1) := fun q => e3
        have HKF : Hid (∀ q, Keeps (fun _ => False) w (wr.drewN q)) := fun q => (HKK.out.trans hKr (fun _ _ h => h)).drewN q
        have hcase : ((A0 : Int) + (I : Int) < (B0 : Int)) ∨ ((B0 : Int) ≤ (A0 : Int) + (I : Int) ∧ (B1 : Int) ≤ (A0 : Int) + (I : Int)) ∨ ((B0 : Int) ≤ (A0 : Int) + (I : Int) ∧ (A0 : Int) + (I : Int) < (B1 : Int)) := by omega
        rcases hcase with hq | hq | hq
        · have H7 := Lib.hid (lAtNo hS (y : Int) ((A0 : Int) + (I : Int) - (B0 : Int)) (.inl (by omega)))
          have f0 : decide ((A0 : Int) + (I : Int) < (B0 : Int)) = true := decide_eq_true hq
          clear hD hS hc ha hy hcc hKr hq
          go_wp2_with fail
          refine H7.out.mono ?_
          rintro e w8 ⟨rfl, q, rfl⟩
          go_wp2
          go_ret
          exact ⟨rfl, HKF.out q⟩
        · have H7 := Lib.hid (lAtNo hS (y : Int) ((A0 : Int) + (I : Int) - (B0 : Int)) (.inr (by rw [hy.get.2.2.1]; omega)))
          have f0 : decide ((A0 : Int) + (I : Int) < (B0 : Int)) = false := decide_eq_false (by omega)
          have f1 : decide ((B1 : Int) ≤ (A0 : Int) + (I : Int)) = true := decide_eq_true (by omega)
          clear hD hS hc ha hy hcc hKr hq
          go_wp2_with fail
          refine H7.out.mono ?_
          rintro e w8 ⟨rfl, q, rfl⟩
          go_wp2
          go_ret
          exact ⟨rfl, HKF.out q⟩
        · have H7 := lAt hS hy ha (A0 + I - B0) (by omega) (by omega)
          have ev : alF (A0 + I) v (B0 + (A0 + I - B0)) = v := by unfold alF; rw [if_pos (by omega)]
          rw [ev, show ((A0 + I - B0 : Nat) : Int) = (A0 : Int) + (I : Int) - (B0 : Int) by omega] at H7
          have H7' := Lib.hid H7
          have f0 : decide ((A0 : Int) + (I : Int) < (B0 : Int)) = false := decide_eq_false (by omega)
          have f1 : decide ((B1 : Int) ≤ (A0 : Int) + (I : Int)) = false := decide_eq_false (by omega)
          clear hD hS hc ha hy hcc hKr hq ev H7
          go_wp2_with fail
          refine H7'.out.mono ?_
          rintro e w8 ⟨rfl, q, rfl⟩
          go_wp2
          go_ret
          exact ⟨rfl, HKF.out q⟩

set_option maxRecDepth 100000 in
set_option maxHeartbeats 4000000 in
theorem listAlias_law (n : Int) (f g : Nat → Int) (i v : Int) (w : World) :
    Calls Try.prog 18 #[.int .i64 n, .agg #[.int .i64 (f 0), .int .i64 (f 1)], .agg #[.int .i64 (g 0), .int .i64 (g 1)], .int .i64 i, .int .i64 v] w fun e w' => e = .returned (.bool true) ∧ Below w.heap.size w w' := by
  generalize f 0 = a0
  generalize f 1 = a1
  generalize g 0 = b0
  generalize g 1 = b1
  by_cases hok : 0 ≤ n ∧ n ≤ 100
  · obtain ⟨m, rfl⟩ := Int.eq_ofNat_of_zero_le hok.1
    have fin : ∀ {Q : Prop}, (Calls Try.prog 18 #[.int .i64 m, .agg #[.int .i64 a0, .int .i64 a1], .agg #[.int .i64 b0, .int .i64 b1], .int .i64 i, .int .i64 v] w fun e w' => e = .returned (.bool true) ∧ Keeps (fun _ => False) w w') → Calls Try.prog 18 #[.int .i64 m, .agg #[.int .i64 a0, .int .i64 a1], .agg #[.int .i64 b0, .int .i64 b1], .int .i64 i, .int .i64 v] w fun e w' => e = .returned (.bool true) ∧ Below w.heap.size w w' :=
      fun h => h.mono fun e w' ⟨he, hk⟩ => ⟨he, hk.below (fun _ _ h => h)⟩
    have hT : ∀ x y : Int, 0 ≤ x ∧ x ≤ y ∧ y ≤ (m : Int) → cutOk x y m = true := by
      intro x y h
      unfold cutOk
      rw [decide_eq_true h.1, decide_eq_true h.2.1, decide_eq_true h.2.2]; rfl
    have hF : ∀ x y : Int, ¬ (0 ≤ x ∧ x ≤ y ∧ y ≤ (m : Int)) → cutOk x y m = false ∧ (x < 0 ∨ 0 ≤ x ∧ y < x ∨ 0 ≤ x ∧ x ≤ y ∧ (m : Int) < y) := by
      intro x y h
      refine ⟨?_, by omega⟩
      cases hc : cutOk x y m with
      | false => rfl
      | true =>
        unfold cutOk at hc
        simp only [Bool.and_eq_true, decide_eq_true_eq] at hc
        exact absurd ⟨hc.1.1, hc.1.2, hc.2⟩ h
    by_cases h1 : 0 ≤ a0 ∧ a0 ≤ a1 ∧ a1 ≤ (m : Int)
    · by_cases h2 : 0 ≤ b0 ∧ b0 ≤ b1 ∧ b1 ≤ (m : Int)
      · obtain ⟨A0, rfl⟩ := Int.eq_ofNat_of_zero_le h1.1
        obtain ⟨A1, rfl⟩ := Int.eq_ofNat_of_zero_le (by omega : 0 ≤ a1)
        obtain ⟨B0, rfl⟩ := Int.eq_ofNat_of_zero_le h2.1
        obtain ⟨B1, rfl⟩ := Int.eq_ofNat_of_zero_le (by omega : 0 ≤ b1)
        exact fin (Q := True) (alias_good w m (by omega) A0 A1 B0 B1 i v (by omega) (by omega) (by omega) (by omega))
      · exact fin (Q := True) (alias_bad w m (by omega) a0 a1 b0 b1 i v (.inr ⟨hT _ _ h1, h1, (hF _ _ h2).1, (hF _ _ h2).2⟩))
    · by_cases h2 : 0 ≤ b0 ∧ b0 ≤ b1 ∧ b1 ≤ (m : Int)
      · exact fin (Q := True) (alias_bad w m (by omega) a0 a1 b0 b1 i v (.inl ⟨(hF _ _ h1).1, (hF _ _ h1).2, .inr ⟨hT _ _ h2, h2⟩⟩))
      · exact fin (Q := True) (alias_bad w m (by omega) a0 a1 b0 b1 i v (.inl ⟨(hF _ _ h1).1, (hF _ _ h1).2, .inl ⟨(hF _ _ h2).1, (hF _ _ h2).2⟩⟩))
  · have hk2 : Keeps (fun _ => False) w ((w.alloc (.cells #[.int .i64 a0, .int .i64 a1] 79)).alloc (.cells #[.int .i64 b0, .int .i64 b1] 79)) := ((Keeps.refl _ w).alloc _).alloc _
    have HK2 := Lib.hid hk2
    have HAN := Lib.hid (fun w => anchor14_calls w)
    clear hk2
    have hc : decide (n < 0) = true ∨ decide (n < 0) = false ∧ decide (100 < n) = true := by
      by_cases h : n < 0
      · exact .inl (decide_eq_true h)
      · exact .inr ⟨decide_eq_false h, decide_eq_true (by omega)⟩
    clear hok
    rcases hc with d1 | ⟨d1, d2⟩
    all_goals
      go_enter Try.func18, Try.ntmps18
      go_wp2_with fail
      refine (HAN.out _).mono ?_
      rintro e w0 ⟨rfl, hk0⟩
      have HK0 := Lib.hid (HK2.out.trans hk0 (fun _ _ h => h))
      clear hk0
      go_wp2
      go_ret
      exact ⟨rfl, HK0.out.below (fun _ _ h => h)⟩
end Go.Proofs.Ytnbiofcfphpikaa
