/-
  The document's example of the channels; MailNil.
-/
import Derived.Test.YtnbiofcfphpikaaMailI
namespace Go.Proofs.Ytnbiofcfphpikaa
open Go.RowKit

theorem spansOf_one {x : Nat} (h : x ≤ 64) : HS.spansOf x = 1 := by unfold HS.spansOf; rw [if_neg (by omega)]

set_option maxRecDepth 100000 in
set_option maxHeartbeats 4000000 in
theorem anchor15_calls (w : World) : Calls Try.prog 36 #[] w fun e w' => e = .returned (.bool true) ∧ Keeps (fun _ => False) w w' := by
  have HN := Lib.hid (sNew w 1024 (by omega) (by omega))
  go_enter Try.func36, Try.ntmps36
  go_wp2_with fail
  refine HN.out.mono ?_
  rintro e w1 ⟨sp, rfl, h1⟩
  have H1 := Lib.hid (mNew h1.out 2 false (by omega) (by rw [spansOf_one (by omega)]; omega))
  clear h1
  go_wp2_with fail
  refine H1.out.mono ?_
  rintro e w2 ⟨a, rfl, -, M1, hc1, -, h2⟩
  have H2 := Lib.hid (mPush h2.out.1 hc1 (by simp) 5)
  clear h2 hc1
  go_wp2_with fail
  refine H2.out.mono ?_
  rintro e w3 ⟨rfl, M2, hc2, -, h3⟩
  have H3 := Lib.hid (mPush h3.out.1 hc2 (by simp) 6)
  clear h3 hc2
  go_wp2_with fail
  refine H3.out.mono ?_
  rintro e w4 ⟨rfl, M3, hc3, -, h4⟩
  have H4 := Lib.hid (mPushNo h4.out.1 (a : Int) 7 (by rw [hc3.get.2.2.1, hc3.get.2.2.2]; simp))
  go_wp2_with fail
  refine H4.out.mono ?_
  rintro e w5 ⟨rfl, q, rfl⟩
  have H5 := Lib.hid (mShift (h4.out.1.drewN q) hc3)
  clear h4 hc3
  go_wp2_with fail
  refine H5.out.mono ?_
  rintro e w6 ⟨rfl, M4, hc4, -, h5⟩
  have H6 := Lib.hid (mPush h5.out.1 hc4 (by simp) 7)
  clear h5 hc4
  go_wp2_with fail
  refine H6.out.mono ?_
  rintro e w7 ⟨rfl, M5, hc5, -, h6⟩
  have H7 := Lib.hid (mItems h6.out.1 hc5)
  have HK := Lib.hid h6.out.1.keeps
  clear h6 hc5
  go_wp2_with fail
  refine H7.out.mono ?_
  rintro e w8 ⟨v, rfl, hG⟩
  have HKF := Lib.hid (HK.out.trans hG.out.keeps (fun _ _ h => h))
  rcases hG.out.ints.src with ⟨rfl, h0⟩ | ⟨ad, cp, rfl, -⟩
  · cases h0
  · clear hG
    go_wp2
    go_ret
    exact ⟨rfl, HKF.out⟩

set_option maxRecDepth 100000 in
set_option maxHeartbeats 4000000 in
theorem mailNil_law (v : Int) (w : World) :
    Calls Try.prog 10 #[.int .i64 v] w fun e w' => e = .returned (.bool true) ∧ Below w.heap.size w w' := by
  have HAN := Lib.hid (anchor15_calls w)
  have HNW := Lib.hid (fun w => sNew w 256 (by omega) (by omega))
  have hn : look (fun _ => none) 0 = none := rfl
  have g0 : ∀ k, mget (fun _ => none) 0 k = 0 := mget_none hn
  have gc : ∀ k, mcan (fun _ => none) 0 k = false := mcan_none hn
  have G0 := Lib.hid g0
  have GC := Lib.hid gc
  clear hn g0 gc
  go_enter Try.func10, Try.ntmps10
  go_wp2_with fail
  refine HAN.out.mono ?_
  rintro e w0 ⟨rfl, hk0⟩
  have HK0 := Lib.hid hk0
  clear hk0
  go_wp2_with fail
  refine (HNW.out w0).mono ?_
  rintro e w1 ⟨sp, rfl, h1⟩
  have H1 := mCount h1.out 0
  rw [G0.out, G0.out] at H1
  have H1' := Lib.hid H1
  have H2 := Lib.hid (fun q => mShiftNo (h1.out.drewN q) 0 (G0.out 2))
  have H3 := fun q => mClosed (h1.out.drewN q) 0
  rw [G0.out] at H3
  have H3' := Lib.hid H3
  have H4 := Lib.hid (fun q => mCloseNo (h1.out.drewN q) 0 (.inr (GC.out 0)))
  have H5 := Lib.hid (fun q => mPushNo (h1.out.drewN q) 0 v (by rw [G0.out, G0.out]; omega))
  have H6 := Lib.hid (fun q => mItems0 (h1.out.drewN q) 0 (G0.out 2))
  have HKF : Hid (∀ q, Keeps (fun _ => False) w (w1.drewN q)) := fun q => (HK0.out.trans h1.out.keeps (fun _ _ h => h)).drewN q
  clear H1 H3 h1
  go_wp2_with fail
  refine H1'.out.mono ?_
  rintro e w2 ⟨rfl, q1, rfl⟩
  go_wp2_with fail
  refine (H2.out _).mono ?_
  rintro e w3 ⟨rfl, q2, rfl⟩
  go_wp2_with fail
  refine (H3'.out (q1 + q2)).mono ?_
  rintro e w4 ⟨rfl, q3, rfl⟩
  go_wp2_with fail
  refine (H4.out (q1 + q2 + q3)).mono ?_
  rintro e w5 ⟨rfl, q4, rfl⟩
  go_wp2_with fail
  refine (H5.out (q1 + q2 + q3 + q4)).mono ?_
  rintro e w6 ⟨rfl, q5, rfl⟩
  go_wp2_with fail
  refine (H6.out (q1 + q2 + q3 + q4 + q5)).mono ?_
  rintro e w7 ⟨rfl, q6, rfl⟩
  go_wp2
  go_ret
  exact ⟨rfl, (HKF.out (q1 + q2 + q3 + q4 + q5 + q6)).below (fun _ _ h => h)⟩
end Go.Proofs.Ytnbiofcfphpikaa
