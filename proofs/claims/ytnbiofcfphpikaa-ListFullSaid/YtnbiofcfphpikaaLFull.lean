/-
  ListFull.
-/
import Derived.Test.YtnbiofcfphpikaaA14
namespace Go.Proofs.Ytnbiofcfphpikaa
open Go.RowKit

set_option maxRecDepth 100000 in
set_option maxHeartbeats 4000000 in
theorem listFull_calls (w : World) (m words : Nat) (hm : m ≤ 3000) (hw1 : 192 ≤ words) (hw2 : words ≤ 2048) :
    Calls Try.prog 17 #[.int .i64 m, .int .i64 words] w fun e w' => e = .returned (.bool true) ∧ Keeps (fun _ => False) w w' := by
  have HAN := Lib.hid (anchor14_calls w)
  have HNW := Lib.hid (fun w => sNew w words (by omega) (by omega))
  have d1 : decide ((m : Int) < 0) = false := decide_eq_false (by omega)
  have d2 : decide ((3000 : Int) < (m : Int)) = false := decide_eq_false (by omega)
  have d3 : decide ((words : Int) < 192) = false := decide_eq_false (by omega)
  have d4 : decide ((2048 : Int) < (words : Int)) = false := decide_eq_false (by omega)
  have HWD : Hid (3 ≤ words / 64) := by show _ ≤ _; omega
  go_enter Try.func17, Try.ntmps17
  go_wp2_with fail
  refine HAN.out.mono ?_
  rintro e w0 ⟨rfl, hk0⟩
  have HK0 := Lib.hid hk0
  clear hk0
  go_wp2_with fail
  refine (HNW.out w0).mono ?_
  rintro e w1 ⟨sp, rfl, h1⟩
  generalize words / 64 = N at *
  have H1 := Lib.hid (lOf (cap := 1) (h1.out.built (.cells #[.int .i64 7] 3)) rfl (items1 w1 7 3) false (by omega) (by rw [spansOf_one (by omega)]; have := HWD.out; omega) (by simp))
  clear h1 HNW HAN
  go_wp2_with fail
  refine H1.out.mono ?_
  rintro e w2 ⟨c, rfl, A, M1, -, -, -, hs, ha, -, h2⟩
  have hadr : c ≤ 1048576 := by obtain ⟨B, hB, _⟩ := hs; exact (h2.out.1.isBlk hB).2.2.2.2
  have H2 := Lib.hid (sHold h2.out.1.bare (c : Int) (wf_addr hadr) (by simp))
  have HS := Lib.hid hs
  have HA := Lib.hid ha
  clear h2 hs ha H1 hadr
  go_wp2_with fail
  refine H2.out.mono ?_
  rintro e w3 ⟨rfl, h3⟩
  have H3 := Lib.hid (lNewAny h3.out.1 m true (by omega) (by simp) (by omega))
  have HLV : Hid (MLive M1 ([] ++ [(c : Int)]) c ∧ MLive M1 ([] ++ [(c : Int)]) A) := by
    obtain ⟨B, hB, hk, hs4, hmm, h0, -⟩ := HS.out
    obtain ⟨B2, hB2, -⟩ := HA.out
    have hc : MLive M1 ([] ++ [(c : Int)]) c := .root (by simp) (by rw [hB]; simp)
    refine ⟨hc, .step hc hB (j := 0) (by omega) ?_ h0 (by rw [hB2]; simp)⟩
    rw [hk, hmm]
    decide
  clear h3 H2
  go_wp2_with fail
  refine H3.out.mono ?_
  rintro e w4 ⟨c2, t, M', n1, rfl, hsl, ht0, hlv, h4⟩
  have hs := HS.out.other (hlv c HLV.out.1)
  have ha := HA.out.other (hlv A HLV.out.2)
  have H4 := lAt h4.out.1 hs ha 0 (by omega) (by omega)
  rw [show pre (fun _ => (7 : Int)) 1 (0 + 0) = 7 from rfl] at H4
  have H4' := Lib.hid H4
  have H5 := fun q => lSize (h4.out.1.drewN q) (c2 : Int)
  have HKF : Hid (∀ q, Keeps (fun _ => False) w (w4.drewN q)) := fun q => (HK0.out.trans h4.out.1.keeps (fun _ _ h => h)).drewN q
  have hg2 : t = true → mget M' (c2 : Int) 2 = (m : Int) := fun ht => by
    obtain ⟨A', hs'⟩ := hsl ht
    exact hs'.get.2.2.1
  generalize mget M' (c2 : Int) 2 = g2 at *
  generalize mget M' (c2 : Int) 3 = g3 at *
  have H5' := Lib.hid H5
  clear H4 H5 h4 hs ha hlv hsl H3 HLV HS HA
  cases t with
  | true =>
    obtain rfl := hg2 rfl
    clear ht0 hg2
    go_wp2_with fail
    refine H4'.out.mono ?_
    rintro e w5 ⟨rfl, q, rfl⟩
    go_wp2_with fail
    refine (H5'.out q).mono ?_
    rintro e w6 ⟨rfl, q2, rfl⟩
    go_wp2
    go_ret
    exact ⟨rfl, HKF.out (q + q2)⟩
  | false =>
    obtain rfl := ht0 rfl
    clear hg2
    go_wp2_with fail
    refine H4'.out.mono ?_
    rintro e w5 ⟨rfl, q, rfl⟩
    go_wp2_with fail
    refine (H5'.out q).mono ?_
    rintro e w6 ⟨rfl, q2, rfl⟩
    go_wp2
    go_ret
    exact ⟨rfl, HKF.out (q + q2)⟩

set_option maxRecDepth 100000 in
set_option maxHeartbeats 4000000 in
theorem listFull_law (n m : Int) (w : World) :
    Calls Try.prog 17 #[.int .i64 n, .int .i64 m] w fun e w' => e = .returned (.bool true) ∧ Below w.heap.size w w' := by
  have HAN := Lib.hid (anchor14_calls w)
  by_cases h1 : n < 0
  · have d1 : decide (n < 0) = true := decide_eq_true h1
    go_enter Try.func17, Try.ntmps17
    go_wp2_with fail
    refine HAN.out.mono ?_
    rintro e w0 ⟨rfl, hk0⟩
    have HK0 := Lib.hid hk0
    clear hk0
    go_wp2
    go_ret
    exact ⟨rfl, HK0.out.below (fun _ _ h => h)⟩
  have d1 : decide (n < 0) = false := decide_eq_false h1
  by_cases h2 : (3000 : Int) < n
  · have d2 : decide ((3000 : Int) < n) = true := decide_eq_true h2
    go_enter Try.func17, Try.ntmps17
    go_wp2_with fail
    refine HAN.out.mono ?_
    rintro e w0 ⟨rfl, hk0⟩
    have HK0 := Lib.hid hk0
    clear hk0
    go_wp2
    go_ret
    exact ⟨rfl, HK0.out.below (fun _ _ h => h)⟩
  have d2 : decide ((3000 : Int) < n) = false := decide_eq_false h2
  by_cases h3 : m < 192
  · have d3 : decide (m < 192) = true := decide_eq_true h3
    go_enter Try.func17, Try.ntmps17
    go_wp2_with fail
    refine HAN.out.mono ?_
    rintro e w0 ⟨rfl, hk0⟩
    have HK0 := Lib.hid hk0
    clear hk0
    go_wp2
    go_ret
    exact ⟨rfl, HK0.out.below (fun _ _ h => h)⟩
  have d3 : decide (m < 192) = false := decide_eq_false h3
  by_cases h4 : (2048 : Int) < m
  · have d4 : decide ((2048 : Int) < m) = true := decide_eq_true h4
    go_enter Try.func17, Try.ntmps17
    go_wp2_with fail
    refine HAN.out.mono ?_
    rintro e w0 ⟨rfl, hk0⟩
    have HK0 := Lib.hid hk0
    clear hk0
    go_wp2
    go_ret
    exact ⟨rfl, HK0.out.below (fun _ _ h => h)⟩
  have d4 : decide ((2048 : Int) < m) = false := decide_eq_false h4
  obtain ⟨N, rfl⟩ := Int.eq_ofNat_of_zero_le (by omega : 0 ≤ n)
  obtain ⟨m, rfl⟩ := Int.eq_ofNat_of_zero_le (by omega : 0 ≤ m)
  exact (listFull_calls w N m (by omega) (by omega) (by omega)).mono fun e w' ⟨he, hk⟩ => ⟨he, hk.below (fun _ _ h => h)⟩
end Go.Proofs.Ytnbiofcfphpikaa
