/-
  MailTwo.
-/
import Derived.Test.YtnbiofcfphpikaaA15
namespace Go.Proofs.Ytnbiofcfphpikaa
open Go.RowKit

theorem Chan.other {M M' : Mp} {c P : Nat} {k m : Int} {b : Nat} {l : List Int} {cl : Int} (h : Chan M c P k m b l cl) (e : M' c = M c) : Chan M' c P k m b l cl := by
  obtain ⟨B, hB, h2⟩ := h
  exact ⟨B, e.trans hB, h2⟩
theorem mCloseC {w wr : World} {R : Nat → Prop} {sp N : Nat} {M : Mp} {held : List Int} {n F : Nat} (h : SpA w wr R sp N M held n F) {c P : Nat} {k m : Int} {b : Nat} {l : List Int} (hc : Chan M c P k m b l 0) :
    Calls Try.prog 41 #[.pointer (some ⟨sp, 0, none⟩), .int .i64 c] wr fun e w' => e = .returned (.bool true) ∧ ∃ M', Chan M' c P k m b l 1 ∧ (∀ a, a ≠ c → M' a = M a) ∧ Hid (SpA w w' R sp N M' held n F ∧ Keeps (fun k => ¬ R k) wr w') := by
  obtain ⟨B, hB, hk, hm, hC⟩ := hc
  refine (mCloseYes h c hB (by rw [hC.s]; omega) (by rw [hC.w0]; decide)).mono ?_
  rintro e w' ⟨he, h2⟩
  exact ⟨he, mset M c 0 1, ⟨_, mset_same hB, hk, hm, hC.close⟩, fun a ha => mset_ne _ _ _ ha, h2⟩
theorem wf_addr {a : Nat} (h : a ≤ 1048576) : (Lit.int .i64 (a : Int)).wf = true := wf_small (by omega) (by omega)
theorem Chan.addr {w wr : World} {R : Nat → Prop} {sp N : Nat} {M : Mp} {held : List Int} {n F : Nat} (h : SpA w wr R sp N M held n F) {c P : Nat} {k m : Int} {b : Nat} {l : List Int} {cl : Int} (hc : Chan M c P k m b l cl) : 64 ≤ c ∧ c ≤ 1048576 := by
  obtain ⟨B, hB, _⟩ := hc
  have := h.isBlk hB
  omega

def Two (w wr : World) (sp a b P F : Nat) (la lb : List Int) : Prop := ∃ M ba bb, SpA w wr R0 sp 64 M [(a : Int)] 0 F ∧ Chan M a P 1 0 ba la 0 ∧ Chan M b P 1 0 bb lb 0

set_option maxRecDepth 100000 in
set_option maxHeartbeats 4000000 in
theorem mailTwo_calls (w : World) (P : Nat) (hP1 : 1 ≤ P) (hP2 : P ≤ 20) (a : Option Addr) (len cap : Nat) (hlen : len ≤ 60) (xs : Nat → Bool) (hA : Arg w a len (fun i => .bool (xs i))) :
    Calls Try.prog 11 #[.int .i64 P, .slice a len cap] w fun e w' => e = .returned (.bool true) ∧ Keeps (fun _ => False) w w' := by
  have HAN := Lib.hid (anchor15_calls w)
  have HNW := Lib.hid (fun w => sNew w 4096 (by omega) (by omega))
  have d1 : decide ((P : Int) < 1) = false := decide_eq_false (by omega)
  have d2 : decide ((20 : Int) < (P : Int)) = false := decide_eq_false (by omega)
  have d3 : decide ((60 : Int) < (len : Int)) = false := decide_eq_false (by omega)
  have HAR := Lib.hid hA
  clear hA
  go_enter Try.func11, Try.ntmps11
  go_wp2_with fail
  refine HAN.out.mono ?_
  rintro e w0 ⟨rfl, hk0⟩
  have HK0 := Lib.hid hk0
  clear hk0
  go_wp2_with fail
  refine (HNW.out w0).mono ?_
  rintro e w1 ⟨sp, rfl, h1⟩
  have hsp : HS.spansOf (4 + P + 1) = 1 := spansOf_one (by omega)
  have H1 := Lib.hid (mNew h1.out P false (by omega) (by rw [hsp]; omega))
  rw [hsp] at H1
  clear h1 HNW HAN
  have HSP := Lib.hid hsp
  clear hsp
  go_wp2_with fail
  refine H1.out.mono ?_
  rintro e w2 ⟨ca, rfl, -, M1, hc1, -, h2⟩
  have had := Chan.addr h2.out.1 hc1
  have H2 := Lib.hid (sHold h2.out.1 (ca : Int) (wf_addr had.2) (by simp))
  have HC1 := Lib.hid hc1
  clear h2 hc1 had H1
  go_wp2_with fail
  refine H2.out.mono ?_
  rintro e w3 ⟨rfl, h3⟩
  have H3 := mNew h3.out.1 P false (by omega) (by rw [HSP.out]; omega)
  rw [HSP.out] at H3
  have H3' := Lib.hid H3
  clear h3 H3 H2
  go_wp2_with fail
  refine H3'.out.mono ?_
  rintro e w4 ⟨cb, rfl, hno, M2, hc2, hoth, h4⟩
  have hne : ca ≠ cb := by
    rintro rfl
    obtain ⟨B, hB, _⟩ := HC1.out
    rw [hB] at hno; cases hno
  have hne2 : ((ca : Int) == (cb : Int)) = false := by simp; omega
  have HST : Hid (Two w0 w4 sp ca cb P 3 [] []) := ⟨M2, 0, 0, h4.out.1, HC1.out.other (hoth _ hne), hc2⟩
  have HNE := Lib.hid hne
  clear h4 hoth hc2 hno H3' HC1 hne
  go_wp2
  obtain ⟨wo, rfl⟩ : ∃ wo : World, wo = w4 := ⟨_, rfl⟩
  go_loopw [10, 11, 62] (fun n m i wr => ∃ t : Nat, t ≤ len ∧ i = .int .i64 t ∧ ∃ na nb : Nat, n = .int .i64 na ∧ m = .int .i64 nb ∧ na ≤ P ∧ nb ≤ P ∧ ∃ la lb, Hid (na = la.length ∧ nb = lb.length ∧ Two w0 wr sp ca cb P 3 la lb)) (fun _ _ i _ => len - (intOf i).toNat)
  case atStart => exact ⟨0, Nat.zero_le _, rfl, 0, 0, rfl, rfl, by omega, by omega, [], [], rfl, rfl, HST.out⟩
  case round =>
    clear HST
    obtain ⟨t, ht, rfl, na, nb, rfl, rfl, hna, hnb, la, lb, hD⟩ := hrel
    by_cases hlt : t < len
    · obtain ⟨hla, hlb, M, ba, bb, hS, hCa, hCb⟩ := hD.out
      obtain ⟨ab, ao, rfl, hcell⟩ := (HAR.out.keep (HK0.out.trans hS.keeps (fun _ _ h => h))).get hlt
      have dt : decide (t < len) = true := decide_eq_true hlt
      generalize xs t = x at *
      cases x
      · by_cases hfull : nb < P
        · have H1 := Lib.hid (mPush hS hCb (by omega) (t : Int))
          have df : decide (nb < P) = true := decide_eq_true hfull
          have hmin : (nb : Int) + 1 ≤ (P : Int) := by omega
          have HX : Hid (∀ wy M', Chan M' cb P 1 0 bb (lb ++ [(t : Int)]) 0 → (∀ a, a ≠ cb → M' a = M a) → SpA w0 wy R0 sp 64 M' [(ca : Int)] 0 3 → na = la.length ∧ nb + 1 = (lb ++ [(t : Int)]).length ∧ Two w0 wy sp ca cb P 3 la (lb ++ [(t : Int)])) :=
            fun wy M' h1 h2 h3 => ⟨hla, by simp [hlb], M', ba, bb, h3, hCa.other (h2 _ HNE.out), h1⟩
          clear hS hCa hCb hD hla hlb
          go_wp2_with fail
          refine H1.out.mono ?_
          rintro e w5 ⟨rfl, M', hc', ho', h5⟩
          have HY := Lib.hid (HX.out _ M' hc' ho' h5.out.1)
          clear h5 hc' ho'
          go_wp2
          go_roundw
          case rel => exact ⟨t + 1, by omega, by go_num, na, nb + 1, rfl, by go_num, by omega, by omega, _, _, HY⟩
          case measure => simp [intOf]; omega
        · have H1 := Lib.hid (mPushNo hS (cb : Int) (t : Int) (by rw [hCb.get.2.2.1, hCb.get.2.2.2]; omega))
          have df : decide (nb < P) = false := decide_eq_false hfull
          have hmin : (P : Int) < (nb : Int) + 1 := by omega
          have HX : Hid (∀ q, na = la.length ∧ P = lb.length ∧ Two w0 (wr.drewN q) sp ca cb P 3 la lb) :=
            fun q => ⟨hla, by omega, M, ba, bb, hS.drewN q, hCa, hCb⟩
          clear hS hCa hCb hD hla hlb
          go_wp2_with fail
          refine H1.out.mono ?_
          rintro e w5 ⟨rfl, q, rfl⟩
          go_wp2
          go_roundw
          case rel => exact ⟨t + 1, by omega, by go_num, na, P, rfl, by go_num, by omega, by omega, _, _, HX.out q⟩
          case measure => simp [intOf]; omega
      · by_cases hfull : na < P
        · have H1 := Lib.hid (mPush hS hCa (by omega) (t : Int))
          have df : decide (na < P) = true := decide_eq_true hfull
          have hmin : (na : Int) + 1 ≤ (P : Int) := by omega
          have HX : Hid (∀ wy M', Chan M' ca P 1 0 ba (la ++ [(t : Int)]) 0 → (∀ a, a ≠ ca → M' a = M a) → SpA w0 wy R0 sp 64 M' [(ca : Int)] 0 3 → na + 1 = (la ++ [(t : Int)]).length ∧ nb = lb.length ∧ Two w0 wy sp ca cb P 3 (la ++ [(t : Int)]) lb) :=
            fun wy M' h1 h2 h3 => ⟨by simp [hla], hlb, M', ba, bb, h3, h1, hCb.other (h2 _ HNE.out.symm)⟩
          clear hS hCa hCb hD hla hlb
          go_wp2_with fail
          refine H1.out.mono ?_
          rintro e w5 ⟨rfl, M', hc', ho', h5⟩
          have HY := Lib.hid (HX.out _ M' hc' ho' h5.out.1)
          clear h5 hc' ho'
          go_wp2
          go_roundw
          case rel => exact ⟨t + 1, by omega, by go_num, na + 1, nb, by go_num, rfl, by omega, by omega, _, _, HY⟩
          case measure => simp [intOf]; omega
        · have H1 := Lib.hid (mPushNo hS (ca : Int) (t : Int) (by rw [hCa.get.2.2.1, hCa.get.2.2.2]; omega))
          have df : decide (na < P) = false := decide_eq_false hfull
          have hmin : (P : Int) < (na : Int) + 1 := by omega
          have HX : Hid (∀ q, P = la.length ∧ nb = lb.length ∧ Two w0 (wr.drewN q) sp ca cb P 3 la lb) :=
            fun q => ⟨by omega, hlb, M, ba, bb, hS.drewN q, hCa, hCb⟩
          clear hS hCa hCb hD hla hlb
          go_wp2_with fail
          refine H1.out.mono ?_
          rintro e w5 ⟨rfl, q, rfl⟩
          go_wp2
          go_roundw
          case rel => exact ⟨t + 1, by omega, by go_num, P, nb, by go_num, rfl, by omega, by omega, _, _, HX.out q⟩
          case measure => simp [intOf]; omega
    · obtain rfl : t = len := by omega
      have dt : decide (t < t) = false := by simp
      obtain ⟨hla, hlb, M, ba, bb, hS, hCa, hCb⟩ := hD.out
      subst hla hlb
      have HA := Lib.hid (mCloseC hS hCa)
      have HCb := Lib.hid hCb
      clear hS hCa hCb hD
      go_wp2_with fail
      refine HA.out.mono ?_
      rintro e w5 ⟨rfl, M', hc', ho', h5⟩
      have hb' := HCb.out.other (ho' _ HNE.out.symm)
      have H2 := mCount h5.out.1 (ca : Int)
      rw [hc'.get.2.2.1] at H2
      have H2' := Lib.hid H2
      have H3 := fun q => mCount (h5.out.1.drewN q) (cb : Int)
      rw [hb'.get.2.2.1] at H3
      have H3' := Lib.hid H3
      have H4 := fun q => mClosed (h5.out.1.drewN q) (ca : Int)
      rw [hc'.get.1] at H4
      have H4' := Lib.hid H4
      have H5 := fun q => mClosed (h5.out.1.drewN q) (cb : Int)
      rw [hb'.get.1] at H5
      have H5' := Lib.hid H5
      have H6 := Lib.hid (fun q => mItems (h5.out.1.drewN q) hc')
      have HKF : Hid (∀ q, Keeps (fun _ => False) w (w5.drewN q)) := fun q => (HK0.out.trans h5.out.1.keeps (fun _ _ h => h)).drewN q
      clear H2 H3 H4 H5 h5 hc' ho' hb'
      generalize mget M' (ca : Int) 3 = g1 at *
      generalize mget M' (cb : Int) 3 = g2 at *
      go_wp2_with fail
      refine H2'.out.mono ?_
      rintro e w6 ⟨rfl, q1, rfl⟩
      go_wp2_with fail
      refine (H3'.out q1).mono ?_
      rintro e w7 ⟨rfl, q2, rfl⟩
      go_wp2_with fail
      refine (H4'.out (q1 + q2)).mono ?_
      rintro e w8 ⟨rfl, q3, rfl⟩
      go_wp2_with fail
      refine (H5'.out (q1 + q2 + q3)).mono ?_
      rintro e w9 ⟨rfl, q4, rfl⟩
      go_wp2_with fail
      refine (H6.out (q1 + q2 + q3 + q4)).mono ?_
      rintro e w10 ⟨v, rfl, hG⟩
      have HKE := Lib.hid ((HKF.out (q1 + q2 + q3 + q4)).trans hG.out.keeps (fun _ _ h => h))
      rcases hG.out.ints.src with ⟨rfl, h0⟩ | ⟨ad, cp, rfl, -⟩
      · have h0' : la.length = 0 := by rw [h0]; rfl
        clear hG h0
        go_wp2
        go_ret
        exact ⟨rfl, HKE.out⟩
      · clear hG
        go_wp2
        go_ret
        exact ⟨rfl, HKE.out⟩

set_option maxRecDepth 100000 in
set_option maxHeartbeats 4000000 in
theorem mailTwo_law (n : Int) (a : Option Addr) (len cap : Nat) (xs : Nat → Bool) (w : World) (hA : Arg w a len (fun i => .bool (xs i))) :
    Calls Try.prog 11 #[.int .i64 n, .slice a len cap] w fun e w' => e = .returned (.bool true) ∧ Below w.heap.size w w' := by
  have HAN := Lib.hid (anchor15_calls w)
  by_cases h1 : n < 1
  · have d1 : decide (n < 1) = true := decide_eq_true h1
    clear hA
    go_enter Try.func11, Try.ntmps11
    go_wp2_with fail
    refine HAN.out.mono ?_
    rintro e w0 ⟨rfl, hk0⟩
    have HK0 := Lib.hid hk0
    clear hk0
    go_wp2
    go_ret
    exact ⟨rfl, HK0.out.below (fun _ _ h => h)⟩
  have d1 : decide (n < 1) = false := decide_eq_false h1
  by_cases h2 : (20 : Int) < n
  · have d2 : decide ((20 : Int) < n) = true := decide_eq_true h2
    clear hA
    go_enter Try.func11, Try.ntmps11
    go_wp2_with fail
    refine HAN.out.mono ?_
    rintro e w0 ⟨rfl, hk0⟩
    have HK0 := Lib.hid hk0
    clear hk0
    go_wp2
    go_ret
    exact ⟨rfl, HK0.out.below (fun _ _ h => h)⟩
  have d2 : decide ((20 : Int) < n) = false := decide_eq_false h2
  by_cases h3 : (60 : Int) < (len : Int)
  · have d3 : decide ((60 : Int) < (len : Int)) = true := decide_eq_true h3
    clear hA
    go_enter Try.func11, Try.ntmps11
    go_wp2_with fail
    refine HAN.out.mono ?_
    rintro e w0 ⟨rfl, hk0⟩
    have HK0 := Lib.hid hk0
    clear hk0
    go_wp2
    go_ret
    exact ⟨rfl, HK0.out.below (fun _ _ h => h)⟩
  have d3 : decide ((60 : Int) < (len : Int)) = false := decide_eq_false h3
  obtain ⟨N, rfl⟩ := Int.eq_ofNat_of_zero_le (by omega : 0 ≤ n)
  exact (mailTwo_calls w N (by omega) (by omega) a len cap (by omega) xs hA).mono fun e w' ⟨he, hk⟩ => ⟨he, hk.below (fun _ _ h => h)⟩
end Go.Proofs.Ytnbiofcfphpikaa
