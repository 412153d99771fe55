/-
  SpaceDrops: the walk.
-/
import Derived.Test.YtnbiofcfphpikaaDropsP
namespace Go.Proofs.Ytnbiofcfphpikaa
open Go.RowKit

/-- The first loop: j blocks. -/
def Dr (w wr : World) (B : HB) (sp : Nat) (j L n : Nat) : Prop := ∃ hv H A, SpaceAt w wr B sp hv H (heldL A L) n ∧ HS.DS H A j (j + 1)
/-- The second: L words are held. -/
def Dt (w wr : World) (B : HB) (sp : Nat) (L n : Nat) : Prop := ∃ hv H A m F, SpaceAt w wr B sp hv H (heldL A L) n ∧ HS.DS H A m F ∧ (L + 1) / 2 ≤ m

set_option maxRecDepth 100000 in
set_option maxHeartbeats 4000000 in
theorem drops_calls (w : World) (n : Nat) (hn : n ≤ 30) (a : Option Addr) (len cap : Nat) (hlen : len ≤ 30) (xs : Nat → Int) (hA : Arg w a len (fun i => .int .i64 (xs i))) :
    Calls Try.prog 3 #[.int .i64 n, .slice a len cap] w fun e w' => e = .returned (.bool true) ∧ Keeps (fun _ => False) w w' := by
  have HAN := Lib.hid (anchor_calls w)
  have HNW := fun w => Lib.hid (space_new w 4096 (by omega) (by omega))
  have d1 : decide ((n : Int) < 0) = false := decide_eq_false (by omega)
  have d2 : decide ((30 : Int) < (n : Int)) = false := decide_eq_false (by omega)
  have d3 : decide ((30 : Int) < (len : Int)) = false := decide_eq_false (by omega)
  have HAR := Lib.hid hA
  clear hA
  go_enter Try.func3, Try.ntmps3
  go_wp2_with fail
  refine HAN.out.mono ?_
  rintro e w0 ⟨rfl, hk0⟩
  have HK0 := Lib.hid hk0
  clear hk0
  go_wp2_with fail
  refine (HNW w0).out.mono ?_
  rintro e w1 ⟨B, sp, rfl, h1⟩
  have HST : Hid (Dr w0 w1 B sp 0 0 0) := ⟨_, _, id, h1.out, HS.DS.start⟩
  clear h1
  go_wp2
  go_loopw [6] (fun k wr => ∃ j : Nat, j ≤ n ∧ k = .int .i64 j ∧ Hid (Dr w0 wr B sp j (2 * j) 0)) (fun k _ => n - (intOf k).toNat)
  case atStart => exact ⟨0, Nat.zero_le _, rfl, HST⟩
  case round =>
    clear HST
    obtain ⟨j, hj, rfl, hD⟩ := hrel
    by_cases hlt : j < n
    · have dj : decide (j < n) = true := decide_eq_true hlt
      obtain ⟨hv, H, A, hS, hDS⟩ := hD.out
      obtain ⟨at_, H', ha, hadd, hfr⟩ := hDS.l.wf.alloc_front hDS.front (by omega) (x := 1 + 1) (by omega) (by omega) (by rw [hDS.l.hn]; show j + 1 + HS.spansOf 2 ≤ 64; unfold HS.spansOf; rw [if_neg (by omega)]; omega)
      have hds2 := hDS.make hadd hfr
      have hat : at_ ≤ 1048576 := by have := hadd.wf.inside (a := at_) (by rw [hadd.is]; exact hadd.pos); have := hadd.wf.nb; omega
      have hwf : (Lit.int .i64 (at_ : Int)).wf = true := wf_small (by omega) (by omega)
      have hheld : heldL A (2 * j) = heldL (setf A j at_) (2 * j) := heldL_congr fun t ht => by rw [setf_ne _ _ (by omega)]
      have HM := Lib.hid (make_yes hS 1 1 0 (by unfold hdrOk; omega) ha)
      have HDS := Lib.hid hds2
      have HHELD := Lib.hid hheld
      clear hS hDS hadd hfr hds2 hheld ha hat hD
      go_wp2_with fail
      refine HM.out.mono ?_
      rintro e w2 ⟨rfl, h2⟩
      have h2' := h2.out.1
      rw [HHELD.out] at h2'
      have HH1 := Lib.hid (hold_calls h2' (at_ : Int) hwf (by rw [heldL_length]; omega))
      clear h2 h2'
      go_wp2_with fail
      refine HH1.out.mono ?_
      rintro e w3 ⟨rfl, hv3, h3⟩
      have e1 : heldL (setf A j at_) (2 * j) ++ [(at_ : Int)] = heldL (setf A j at_) (2 * j + 1) := by
        have := heldL_one (setf A j at_) j
        rwa [setf_same] at this
      have h3' := h3.out.1
      rw [e1] at h3'
      have HH2 := Lib.hid (hold_calls h3' (at_ : Int) hwf (by rw [heldL_length]; omega))
      clear h3 h3' e1
      go_wp2_with fail
      refine HH2.out.mono ?_
      rintro e w4 ⟨rfl, hv4, h4⟩
      have e2 : heldL (setf A j at_) (2 * j + 1) ++ [(at_ : Int)] = heldL (setf A j at_) (2 * (j + 1)) := by
        have := heldL_two (setf A j at_) j
        rwa [setf_same] at this
      have h4' := h4.out.1
      rw [e2] at h4'
      have HNX : Hid (Dr w0 w4 B sp (j + 1) (2 * (j + 1)) 0) := ⟨_, _, _, h4', HDS.out⟩
      clear h4 h4' e2
      go_wp2
      go_roundw
      case rel => exact ⟨j + 1, by omega, by go_num, HNX⟩
      case measure => simp [intOf]; omega
    · obtain rfl : j = n := by omega
      have dj : decide (j < j) = false := by simp
      have HDT : Hid (Dt w0 wr B sp (2 * j) 0) := by
        obtain ⟨hv, H, A, hS, hDS⟩ := hD.out
        exact ⟨hv, H, A, j, j + 1, hS, hDS, by omega⟩
      clear hD
      go_wp2
      obtain ⟨wo, rfl⟩ : ∃ wo : World, wo = wr := ⟨_, rfl⟩
      go_loopw [9, 53] (fun l i wr => ∃ t : Nat, t ≤ len ∧ i = .int .i64 t ∧ ∃ L : Nat, l = .int .i64 L ∧ L ≤ 60 ∧ Hid (Dt w0 wr B sp L t)) (fun _ i _ => len - (intOf i).toNat)
      case atStart => exact ⟨0, Nat.zero_le _, rfl, 2 * j, by go_num, by omega, HDT⟩
      case round =>
        clear HDT
        obtain ⟨t, ht, rfl, L, rfl, hL, hD⟩ := hrel
        by_cases hlt2 : t < len
        · obtain ⟨hv, H, A, m, F, hS, hDS, hLm⟩ := hD.out
          obtain ⟨ab, ao, rfl, hcell⟩ := (HAR.out.keep (HK0.out.trans hS.keeps (fun _ _ h => h))).get hlt2
          have dt : decide (t < len) = true := decide_eq_true hlt2
          generalize xs t = x at *
          obtain ⟨K, hK⟩ : ∃ K : Nat, (K : Int) = min (max 0 x) L := ⟨(min (max 0 x) (L : Int)).toNat, by omega⟩
          have HDR := Lib.hid (drop_calls hS x K (by rw [heldL_length]; exact hK) (by rw [heldL_length]; omega))
          have hKL : K ≤ L := by omega
          have HTK : Hid (List.take ((heldL A L).length - K) (heldL A L) = heldL A (L - K)) := by
            show _ = _
            rw [heldL_length, heldL_take A (by omega)]
          have HDS := Lib.hid hDS
          obtain ⟨m2, hm2⟩ : ∃ m2, (L - K + 1) / 2 = m2 := ⟨_, rfl⟩
          have HLm : Hid ((L - K + 1) / 2 ≤ m) := by show _ ≤ _; omega
          have hL2 : L - K ≤ 60 := by omega
          have HM2 := Lib.hid hm2
          clear hS hDS hD hLm
          have hcases : (x ≤ 0 ∧ K = 0) ∨ (0 < K ∧ x = (K : Int)) ∨ ((L : Int) < x ∧ K = L) := by omega
          clear hK
          rcases hcases with ⟨hx, hk⟩ | ⟨hx, hk⟩ | ⟨hx, hk⟩
          case' inl =>
            have dx : decide (0 < x) = false := decide_eq_false (by omega)
            have q1 : ((L : Int) + 1).tdiv 2 = (m2 : Int) := by rw [Int.tdiv_eq_ediv_of_nonneg (by omega)]; omega
            have q2 : ((L : Int) + 1) / 2 = (m2 : Int) := by omega
            have HFV : Hid ((L : Int) = ((L - K : Nat) : Int)) := by show _ = _; omega
          case' inr.inl =>
            subst hk
            have hx0 : (0 : Int) < (K : Int) := by omega
            have hxL : (K : Int) ≤ (L : Int) := by omega
            have q1 : ((L : Int) - (K : Int) + 1).tdiv 2 = (m2 : Int) := by rw [Int.tdiv_eq_ediv_of_nonneg (by omega)]; omega
            have q2 : ((L : Int) - (K : Int) + 1) / 2 = (m2 : Int) := by omega
            have HFV : Hid ((L : Int) - (K : Int) = ((L - K : Nat) : Int)) := by show _ = _; omega
          case' inr.inr =>
            have hx0 : (0 : Int) < x := by omega
            have q1 : m2 = 0 := by omega
            have HFV : Hid ((0 : Int) = ((L - K : Nat) : Int)) := by show _ = _; omega
          all_goals
            clear hm2
            go_wp2_with fail
            refine HDR.out.mono ?_
            rintro e w2 ⟨rfl, hv2, h2⟩
            have h2' := h2.out.1
            rw [HTK.out] at h2'
            have HCO := Lib.hid (space_collect h2' (by rw [heldL_length]; omega) (by omega))
            clear h2 h2'
            go_wp2_with fail
            refine HCO.out.mono ?_
            rintro e w3 ⟨c, rfl, H1, h3⟩
            have hds2 := HDS.out.sweep HLm.out h3.out.2.1
            have hcnt : H1.blocks.length = m2 := by rw [hds2.count, HM2.out]
            have hT := told_calls h3.out.1
            rw [hcnt] at hT
            have HT := Lib.hid hT
            have hnx : ∀ w4, SpaceAt w0 w4 B sp hv2 H1 (heldL A (L - K)) (t + 1) → Dt w0 w4 B sp (L - K) (t + 1) := fun w4 h => ⟨_, _, _, _, _, h, hds2, Nat.le_refl _⟩
            have HNX := Lib.hid hnx
            clear hds2 hcnt hT hnx h3
            go_wp2_with fail
            refine HT.out.mono ?_
            rintro e w4 ⟨rfl, h4⟩
            have HN4 := Lib.hid (HNX.out _ h4.out.1)
            clear h4
            go_wp2
            go_roundw
            case rel => exact ⟨t + 1, by omega, by go_num, L - K, by rw [← HFV.out], hL2, HN4⟩
            case measure => simp [intOf]; omega
        · obtain rfl : t = len := by omega
          obtain ⟨hv, H, A, m, F, hS, -⟩ := hD.out
          have HKF := Lib.hid (HK0.out.trans hS.keeps (fun _ _ h => h))
          have dt : decide (t < t) = false := by simp
          clear hD hS
          go_wp2
          go_ret
          exact ⟨rfl, HKF.out⟩

set_option maxRecDepth 100000 in
set_option maxHeartbeats 1000000 in
theorem drops_law (n : Int) (a : Option Addr) (len cap : Nat) (xs : Nat → Int) (w : World) (hA : Arg w a len (fun i => .int .i64 (xs i))) :
    Calls Try.prog 3 #[.int .i64 n, .slice a len cap] w fun e w' => e = .returned (.bool true) ∧ Below w.heap.size w w' := by
  have HAN := Lib.hid (anchor_calls w)
  by_cases h1 : n < 0
  · have d1 : decide (n < 0) = true := decide_eq_true h1
    clear hA
    go_enter Try.func3, Try.ntmps3
    go_wp2_with fail
    refine HAN.out.mono ?_
    rintro e w0 ⟨rfl, hk0⟩
    go_wp2
    go_ret
    exact ⟨rfl, hk0.below (fun _ _ h => h)⟩
  have d1 : decide (n < 0) = false := decide_eq_false h1
  by_cases h2 : (30 : Int) < n
  · have d2 : decide ((30 : Int) < n) = true := decide_eq_true h2
    clear hA
    go_enter Try.func3, Try.ntmps3
    go_wp2_with fail
    refine HAN.out.mono ?_
    rintro e w0 ⟨rfl, hk0⟩
    go_wp2
    go_ret
    exact ⟨rfl, hk0.below (fun _ _ h => h)⟩
  have d2 : decide ((30 : Int) < n) = false := decide_eq_false h2
  by_cases h3 : 30 < len
  · have d3 : decide ((30 : Int) < (len : Int)) = true := decide_eq_true (by omega)
    clear hA
    go_enter Try.func3, Try.ntmps3
    go_wp2_with fail
    refine HAN.out.mono ?_
    rintro e w0 ⟨rfl, hk0⟩
    go_wp2
    go_ret
    exact ⟨rfl, hk0.below (fun _ _ h => h)⟩
  obtain ⟨N, rfl⟩ := Int.eq_ofNat_of_zero_le (by omega : 0 ≤ n)
  exact (drops_calls w N (by omega) a len cap (by omega) xs hA).mono fun e w' ⟨he, hk⟩ => ⟨he, hk.below (fun _ _ h => h)⟩
end Go.Proofs.Ytnbiofcfphpikaa
