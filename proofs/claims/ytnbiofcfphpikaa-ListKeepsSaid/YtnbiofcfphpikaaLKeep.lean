/-
  ListKeeps.
-/
import Derived.Test.YtnbiofcfphpikaaLKeepP
namespace Go.Proofs.Ytnbiofcfphpikaa
open Go.RowKit

set_option maxRecDepth 100000 in
set_option maxHeartbeats 8000000 in
theorem listKeeps_calls (w : World) (K : Nat) (hK : K ≤ 60) (ev : Int) (hev : 1 ≤ ev) :
    Calls Try.prog 19 #[.int .i64 K, .int .i64 ev] w fun e w' => e = .returned (.bool true) ∧ Keeps (fun _ => False) w w' := by
  have HAN := Lib.hid (anchor14_calls w)
  have HNW := Lib.hid (fun w => bNew w 4096 (by omega) (by omega))
  have d1 : decide ((K : Int) < 0) = false := decide_eq_false (by omega)
  have d2 : decide ((60 : Int) < (K : Int)) = false := decide_eq_false (by omega)
  have d3 : decide (ev < 1) = false := decide_eq_false (by omega)
  go_enter Try.func19, Try.ntmps19
  go_wp2_with fail
  refine HAN.out.mono ?_
  rintro e w0 ⟨rfl, hk0⟩
  have HK0 := Lib.hid hk0
  clear hk0
  go_wp2_with fail
  refine (HNW.out w0).mono ?_
  rintro e w1 ⟨sp, rfl, h1⟩
  have HST : Hid (KS w0 w1 sp 0 0 0) := KS.start h1.out
  clear h1 HNW HAN
  go_wp2
  obtain ⟨wo, rfl⟩ : ∃ wo : World, wo = w1 := ⟨_, rfl⟩
  go_loopw [6, 7] (fun x i wr => ∃ k : Nat, k ≤ K ∧ i = .int .i64 k ∧ ∃ (c : Int), x = .int .i64 c ∧ Hid (KS w0 wr sp k c k)) (fun _ i _ => K - (intOf i).toNat)
  case atStart => exact ⟨0, Nat.zero_le _, rfl, 0, rfl, HST.out⟩
  case round =>
    clear HST
    obtain ⟨k, hk, rfl, c, rfl, hD⟩ := hrel
    by_cases hlt : k < K
    · have dl : decide (k < K) = true := decide_eq_true hlt
      have hk60 : k < 60 := by omega
      have HK60 := Lib.hid hk60
      have hmod : ∃ m : Nat, (k : Int).tmod ev = (m : Int) ∧ (k : Int) % ev = (m : Int) ∧ m < 60 := by
        have h1 := Int.emod_nonneg (k : Int) (show ev ≠ 0 by omega)
        refine ⟨((k : Int) % ev).toNat, by rw [Int.tmod_eq_emod_of_nonneg (by omega)]; omega, by omega, ?_⟩
        by_cases h2 : (k : Int) < ev
        · rw [Int.emod_eq_of_lt (by omega) h2]; omega
        · have := Int.emod_lt_of_pos (k : Int) (show 0 < ev by omega); omega
      obtain ⟨m, em1, em2, hm⟩ := hmod
      have dz : (ev == 0) = false := by simp; omega
      have dz2 : ¬ ev = 0 := by omega
      have ewr : IntKind.i64.wrap (m : Int) = (m : Int) := IntWalk.i64_in _ (by omega)
      have H1 := Lib.hid (hD.out.make hk60)
      clear hD
      go_wp2_with fail
      refine H1.out.mono ?_
      rintro e w2 ⟨a, rfl, ha, h2⟩
      have HWF := Lib.hid (wf_addr ha)
      have H2 := Lib.hid h2.out.set
      clear h2 ha H1
      go_wp2_with fail
      refine H2.out.mono ?_
      rintro e w3 ⟨rfl, h3⟩
      have H3 := Lib.hid (h3.out.hold HWF.out)
      clear h3 H2
      go_wp2_with fail
      refine H3.out.mono ?_
      rintro e w4 ⟨rfl, h4⟩
      have H4 := Lib.hid (h4.out.app HK60.out 3)
      clear h4 H3
      go_wp2_with fail
      refine H4.out.mono ?_
      rintro e w5 ⟨v, rfl, hv, h5⟩
      have HWV := Lib.hid (wf_addr hv)
      have H5 := Lib.hid (KA.drop h5.out (by have := hl_len k c; omega))
      clear h5 H4 hv
      go_wp2_with fail
      refine H5.out.mono ?_
      rintro e w6 ⟨rfl, h6⟩
      have H6 := Lib.hid (KA.drops h6.out)
      clear h6 H5
      go_wp2_with fail
      refine H6.out.mono ?_
      rintro e w7 ⟨rfl, h7⟩
      have H7 := Lib.hid (KA.hold h7.out HWV.out)
      clear h7 H6
      go_wp2_with fail
      refine H7.out.mono ?_
      rintro e w8 ⟨rfl, h8⟩
      clear H7
      by_cases hz : m = 0
      · have z1 : ((m : Int) == 0) = true := by simp; omega
        have z2 : decide ((m : Int) = 0) = true := decide_eq_true (by omega)
        have H8 := Lib.hid (h8.out.collect (by have := HK60.out; omega))
        clear h8 hz
        go_wp2_with fail
        refine H8.out.mono ?_
        rintro e w9 ⟨cc, rfl, h9⟩
        go_wp2
        go_roundw
        case rel => exact ⟨k + 1, by omega, by go_num, v, rfl, h9.out⟩
        case measure => simp [intOf]; omega
      · have z1 : ((m : Int) == 0) = false := by simp; omega
        have z2 : decide ((m : Int) = 0) = false := decide_eq_false (by omega)
        have HY : Hid (KS w0 w8 sp (k + 1) v (k + 1)) := h8.out.up (by omega)
        clear h8 hz
        go_wp2
        go_roundw
        case rel => exact ⟨k + 1, by omega, by go_num, v, rfl, HY.out⟩
        case measure => simp [intOf]; omega
    · obtain rfl : k = K := by omega
      have dl : decide (k < k) = false := by simp
      go_wp2
      obtain ⟨wo2, rfl⟩ : ∃ wo : World, wo = wr := ⟨_, rfl⟩
      go_loopw [12] (fun i wr => ∃ j : Nat, j ≤ k ∧ i = .int .i64 j ∧ Hid (KS w0 wr sp k c k)) (fun i _ => k - (intOf i).toNat)
      case atStart => exact ⟨0, Nat.zero_le _, rfl, hD⟩
      case round =>
        clear hD
        obtain ⟨j, hj, rfl, hD⟩ := hrel
        by_cases hlt2 : j < k
        · have dk : decide (j < k) = true := decide_eq_true hlt2
          obtain ⟨a, ha1, ha2⟩ := hD.out.at_ hlt2
          have H1 := Lib.hid (ha1 0)
          have H2 := fun q => Lib.hid (ha2 q)
          have HX := Lib.hid (fun q => hD.out.drewN q)
          have dn : (((j : Nat) : Int) != (j : Int)) = false := by simp
          clear hD ha1 ha2
          go_wp2_with fail
          refine H1.out.mono ?_
          rintro e w2 ⟨rfl, q, rfl⟩
          go_wp2_with fail
          refine (H2 q).out.mono ?_
          rintro e w3 ⟨rfl, q2, rfl⟩
          go_wp2
          go_roundw
          case rel => exact ⟨j + 1, by omega, by go_num, HX.out (q + q2)⟩
          case measure => simp [intOf]; omega
        · obtain rfl : j = k := by omega
          have dk : decide (j < j) = false := by simp
          have hcnt : ∃ cnt : Nat, (if j = 0 then 0 else j + 2) = cnt ∧ cnt ≤ 62 ∧ ((j = 0 ∧ cnt = 0) ∨ (0 < j ∧ cnt = j + 2)) := by
            by_cases h0 : j = 0
            · exact ⟨0, by rw [if_pos h0], by omega, .inl ⟨h0, rfl⟩⟩
            · exact ⟨j + 2, by rw [if_neg h0], by omega, .inr ⟨by omega, rfl⟩⟩
          obtain ⟨cnt, ecnt, hc62, hcases⟩ := hcnt
          have H1 := hD.out.fin (by omega)
          rw [ecnt] at H1
          have H1' := Lib.hid H1
          have hHC := Lib.hid hK
          clear H1 ecnt hD
          have hb : ((j : Int) == 0) = true ∧ ((cnt : Int) == 0) = true ∧ decide (0 < j) = false ∨ ((j : Int) == 0) = false ∧ decide (0 < j) = true ∧ ((cnt : Int) == (j : Int) + 2) = true := by
            rcases hcases with ⟨h1, h2⟩ | ⟨h1, h2⟩
            · left; subst h1 h2; simp
            · right; subst h2; simp; omega
          clear hcases
          go_wp2_with fail
          refine H1'.out.mono ?_
          rintro e w2 ⟨c1, rfl, h2⟩
          have H2 := Lib.hid h2.out.told
          clear h2 H1'
          go_wp2_with fail
          refine H2.out.mono ?_
          rintro e w3 ⟨n1, f1, rfl, -, h3⟩
          have H3 := Lib.hid h3.out.drop
          clear h3 H2
          go_wp2_with fail
          refine H3.out.mono ?_
          rintro e w4 ⟨rfl, h4⟩
          have H4 := Lib.hid (h4.out.collect (by have := hHC.out; omega))
          clear h4 H3
          go_wp2_with fail
          refine H4.out.mono ?_
          rintro e w5 ⟨c2, rfl, h5⟩
          have H5 : Hid (Calls Try.prog 26 #[.pointer (some ⟨sp, 0, none⟩)] w5 fun e w' => ∃ n f : Nat, e = .returned (.tuple #[.int .i64 0, .int .i64 n, .int .i64 f]) ∧ Hid (Keeps (fun _ => False) w0 w')) := by
            obtain ⟨n, h6⟩ := h5.out
            exact kTold0 h6
          clear h5 H4
          go_wp2_with fail
          refine H5.out.mono ?_
          rintro e w6 ⟨n2, f2, rfl, h6⟩
          have HKF := Lib.hid (HK0.out.trans h6.out (fun _ _ h => h))
          clear h6 H5
          rcases hb with ⟨b1, b2, b3⟩ | ⟨b1, b2, b3⟩
          · go_wp2
            go_ret
            exact ⟨rfl, HKF.out⟩
          · go_wp2
            go_ret
            exact ⟨rfl, HKF.out⟩

set_option maxRecDepth 100000 in
set_option maxHeartbeats 4000000 in
theorem listKeeps_law (n ev : Int) (w : World) :
    Calls Try.prog 19 #[.int .i64 n, .int .i64 ev] w fun e w' => e = .returned (.bool true) ∧ Below w.heap.size w w' := by
  have HAN := Lib.hid (anchor14_calls w)
  have key : (n < 0 ∨ 60 < n ∨ ev < 1) ∨ (0 ≤ n ∧ n ≤ 60 ∧ 1 ≤ ev) := by omega
  rcases key with hbad | ⟨h1, h2, h3⟩
  · have hd : decide (n < 0) = true ∨ (decide (n < 0) = false ∧ decide ((60 : Int) < n) = true) ∨ (decide (n < 0) = false ∧ decide ((60 : Int) < n) = false ∧ decide (ev < 1) = true) := by
      by_cases h1 : n < 0
      · exact .inl (decide_eq_true h1)
      · by_cases h2 : 60 < n
        · exact .inr (.inl ⟨decide_eq_false h1, decide_eq_true h2⟩)
        · exact .inr (.inr ⟨decide_eq_false h1, decide_eq_false h2, decide_eq_true (by omega)⟩)
    clear hbad
    rcases hd with d1 | ⟨d1, d2⟩ | ⟨d1, d2, d3⟩
    all_goals
      go_enter Try.func19, Try.ntmps19
      go_wp2_with fail
      refine HAN.out.mono ?_
      rintro e w0 ⟨rfl, hk0⟩
      have HK0 := Lib.hid hk0
      clear hk0
      go_wp2
      go_ret
      exact ⟨rfl, HK0.out.below (fun _ _ h => h)⟩
  · obtain ⟨N, rfl⟩ := Int.eq_ofNat_of_zero_le h1
    exact (listKeeps_calls w N (by omega) ev h3).mono fun e w' ⟨he, hk⟩ => ⟨he, hk.below (fun _ _ h => h)⟩
end Go.Proofs.Ytnbiofcfphpikaa
