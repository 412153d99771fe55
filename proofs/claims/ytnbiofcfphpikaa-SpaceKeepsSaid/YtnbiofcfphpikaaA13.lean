/-
  Constants' words; the document's example of the strings; TextConstants.
-/
import Derived.Test.YtnbiofcfphpikaaBytes
import Derived.Test.YtnbiofcfphpikaaA14
namespace Go.Proofs.Ytnbiofcfphpikaa
open Go.RowKit

theorem constant_calls (w : World) (i : Int) (h0 : 0 ≤ i) (h1 : i ≤ 2000000000000) :
    Calls Try.prog 44 #[.int .i64 i] w fun e w' => e = .returned (.int .i64 (2 * i + 1)) ∧ w = w' := by
  go_enter Try.func44, Try.ntmps44
  go_wp2
  go_ret
  exact ⟨rfl, rfl⟩

/-- A constant's word. -/
theorem tConst {w : World} (sp : Nat) {ca : Option Addr} {len cc : Nat} {z : Nat → ByteArray} (hA : Arg w ca len (fun i => .string (z i))) (i : Nat) (hi : i < len) (hl : i ≤ 2000000000000) :
    Calls Try.prog 35 #[.pointer (some ⟨sp, 0, none⟩), .slice ca len cc, .int .i64 (2 * (i : Int) + 1)] w fun e w' => e = .returned (.string (z i)) ∧ w = w' := by
  obtain ⟨b, o, rfl, hc⟩ := hA.get hi
  have d1 : decide (i < len) = true := decide_eq_true hi
  have m1 : (2 * (i : Int) + 1) % 2 = 1 := by omega
  have m2 : (2 * (i : Int) + 1 - 1) / 2 = (i : Int) := by omega
  have m3 : (2 * (i : Int)) / 2 = (i : Int) := by omega
  have m4 : (0 : Int) < 2 * (i : Int) + 1 := by omega
  clear hA
  go_enter Try.func35, Try.ntmps35
  go_wp2
  go_ret
  exact ⟨rfl, rfl⟩
theorem tConstNo {w : World} (sp : Nat) (ca : Option Addr) (len cc : Nat) (i : Nat) (hi : len ≤ i) (hl : i ≤ 2000000000000) :
    Calls Try.prog 35 #[.pointer (some ⟨sp, 0, none⟩), .slice ca len cc, .int .i64 (2 * (i : Int) + 1)] w fun e w' => e = .returned (.string ByteArray.empty) ∧ w = w' := by
  have d1 : decide (i < len) = false := decide_eq_false (by omega)
  have m1 : (2 * (i : Int) + 1) % 2 = 1 := by omega
  have m2 : (2 * (i : Int) + 1 - 1) / 2 = (i : Int) := by omega
  have m3 : (2 * (i : Int)) / 2 = (i : Int) := by omega
  have m4 : (0 : Int) < 2 * (i : Int) + 1 := by omega
  go_enter Try.func35, Try.ntmps35
  go_wp2
  go_ret
  exact ⟨rfl, rfl⟩
theorem tConstNeg {w : World} (sp : Nat) (ca : Option Addr) (len cc : Nat) (x : Int) (h0 : x < 0) (h1 : -5000000000000 ≤ x) (hodd : (x.tmod 2 == 0) = false) :
    Calls Try.prog 35 #[.pointer (some ⟨sp, 0, none⟩), .slice ca len cc, .int .i64 x] w fun e w' => e = .returned (.string ByteArray.empty) ∧ w = w' := by
  have d1 : decide (0 < x) = false := decide_eq_false (by omega)
  have hodd2 : (x.tmod 2 != 0) = true := by simp only [bne, hodd]; rfl
  go_enter Try.func35, Try.ntmps35
  go_wp2
  go_ret
  exact ⟨rfl, rfl⟩

def abc : ByteArray := ⟨#[97, 98, 99]⟩
theorem abc_word : wrd abc 0 8 = 6513249 := by decide +kernel

set_option maxRecDepth 100000 in
set_option maxHeartbeats 4000000 in
theorem anchor13_calls (w : World) : Calls Try.prog 33 #[] w fun e w' => e = .returned (.bool true) ∧ Keeps (fun _ => False) w w' := by
  have HN := Lib.hid (sNew w 1024 (by omega) (by omega))
  have hsz : abc.size = 3 := rfl
  have HSZ := Lib.hid hsz
  have hT : Hid (∀ w sp N M F, SpA w sp R0 N 16 M [] 0 F → True) := fun _ _ _ _ _ _ => trivial
  clear hT hsz
  go_enter Try.func33, Try.ntmps33
  go_wp2_with fail
  refine HN.out.mono ?_
  rintro e w1 ⟨sp, rfl, h1⟩
  have H1 := tNew h1.out abc (by rw [HSZ.out]; omega) (by rw [HSZ.out]; omega) (by rw [HSZ.out, spansOf_one (by omega)]; omega)
  have H1' := Lib.hid H1
  clear h1 H1
  go_wp2_with fail
  refine H1'.out.mono ?_
  rintro e w2 ⟨a, rfl, -, h2⟩
  obtain ⟨M', hS, -, ⟨b, hb, hT⟩, -⟩ := h2.out
  have hs2 : b.s = 2 := by rw [hT.ss, HSZ.out]
  have g0 : mget M' (a : Int) 0 = 3 := (mget_at hb 0 rfl (by omega)).trans (by rw [hT.w0, HSZ.out]; rfl)
  have g1 : mget M' (a : Int) 1 = 6513249 := (mget_at hb 1 rfl (by omega)).trans ((hT.ww 0 (by rw [HSZ.out]; omega)).trans abc_word)
  have H3 := sGet hS (a : Int) 0
  rw [g0] at H3
  have H4 := fun q => sGet (hS.drewN q) (a : Int) 1
  rw [g1] at H4
  have H3' := Lib.hid H3
  have H4' := fun q => Lib.hid (H4 q)
  have HK := Lib.hid hS.keeps
  have hargx : ∀ wx : World, Arg (wx.alloc (.cells #[.string ⟨#[120]⟩, .string ⟨#[121]⟩] 9)) (some ⟨wx.heap.size, 0, none⟩) 2 (fun i => .string (if i = 0 then ⟨#[120]⟩ else ⟨#[121]⟩)) := by
    intro wx
    refine .inr ⟨_, _, rfl, fun i hi => ?_⟩
    rcases (by omega : i = 0 ∨ i = 1) with rfl | rfl
    · exact World.cell?_alloc_new wx #[.string ⟨#[120]⟩, .string ⟨#[121]⟩] _ 0
    · exact World.cell?_alloc_new wx #[.string ⟨#[120]⟩, .string ⟨#[121]⟩] _ 1
  have H5 := Lib.hid (fun wx => tConst (cc := 2) sp (hargx wx) 1 (by omega) (by omega))
  have H6 := Lib.hid (fun wx => constant_calls wx 1 (by omega) (by omega))
  have HKA : Hid (∀ q, Keeps (fun _ => False) w ((w2.drewN q).alloc (.cells #[.string ⟨#[120]⟩, .string ⟨#[121]⟩] 9))) := fun q => (HK.out.drewN q).alloc _
  clear hS hb hT hs2 g0 g1 H3 H4 h2 H1' hargx HK
  go_wp2_with fail
  refine H3'.out.mono ?_
  rintro e w3 ⟨rfl, q, rfl⟩
  go_wp2_with fail
  refine (H4' q).out.mono ?_
  rintro e w4 ⟨rfl, q2, rfl⟩
  go_wp2_with fail
  refine (H5.out (w2.drewN (q + q2))).mono ?_
  rintro e w5 ⟨rfl, rfl⟩
  go_wp2_with fail
  refine (H6.out _).mono ?_
  rintro e w6 ⟨rfl, rfl⟩
  go_wp2
  go_ret
  exact ⟨rfl, HKA.out (q + q2)⟩

set_option maxRecDepth 100000 in
set_option maxHeartbeats 4000000 in
theorem textConstants_calls (w : World) (a : Option Addr) (len cap : Nat) (xs : Nat → ByteArray) (i : Nat) (hlen : len ≤ 100) (hi : i ≤ 1099511627776) (hA : Arg w a len (fun i => .string (xs i))) :
    Calls Try.prog 13 #[.slice a len cap, .int .i64 i] w fun e w' => e = .returned (.bool true) ∧ Keeps (fun _ => False) w w' := by
  have HAN := Lib.hid (anchor13_calls w)
  have HNW := Lib.hid (fun w => sNew w 256 (by omega) (by omega))
  have d1 : decide ((100 : Int) < (len : Int)) = false := decide_eq_false (by omega)
  have d2 : decide ((i : Int) < 0) = false := decide_eq_false (by omega)
  have d3 : decide ((1099511627776 : Int) < (i : Int)) = false := decide_eq_false (by omega)
  have HCO := Lib.hid (fun w => constant_calls w (i : Int) (by omega) (by omega))
  have HNEG := Lib.hid (fun w sp ca len cc => tConstNeg (w := w) sp ca len cc (-(2 * (i : Int) + 1)) (by omega) (by omega) (by
    have : (-(2 * (i : Int) + 1)).tmod 2 ≠ 0 := by
      rw [Int.neg_tmod, Int.tmod_eq_emod_of_nonneg (by omega)]
      omega
    simpa using this))
  have HAR := Lib.hid hA
  have hm : (2 * (i : Int) + 1) % 2 = 1 := by omega
  clear hA
  go_enter Try.func13, Try.ntmps13
  go_wp2_with fail
  refine HAN.out.mono ?_
  rintro e w0 ⟨rfl, hk0⟩
  have HK0 := Lib.hid hk0
  clear hk0 HAN
  go_wp2_with fail
  refine (HNW.out w0).mono ?_
  rintro e w1 ⟨sp, rfl, h1⟩
  have HT := Lib.hid (sTold h1.out (l := []) (by simp) (fun a => by simp))
  have HAR1 := Lib.hid ((HAR.out.keep HK0.out).keep h1.out.keeps)
  clear h1 HNW
  by_cases hlt : i < len
  · have dl : decide (i < len) = true := decide_eq_true hlt
    obtain ⟨ab, ao, rfl, hcell⟩ := HAR1.out.get hlt
    go_wp2_with fail
    refine (HCO.out _).mono ?_
    rintro e w2 ⟨rfl, rfl⟩
    go_wp2_with fail
    refine HT.out.mono ?_
    rintro e w3 ⟨f, rfl, -, h3⟩
    have HAR3 := Lib.hid (HAR1.out.keep h3.out.2)
    have HKF := Lib.hid (HK0.out.trans h3.out.1.keeps (fun _ _ h => h))
    have H4 := Lib.hid (tConst (cc := cap) sp HAR3.out i hlt (by omega))
    clear h3 hcell
    generalize xs i = zz at *
    go_wp2_with fail
    refine H4.out.mono ?_
    rintro e w4 ⟨rfl, rfl⟩
    go_wp2_with fail
    refine (tConstNo sp none 0 0 i (by omega) (by omega)).mono ?_
    rintro e w5 ⟨rfl, rfl⟩
    go_wp2_with fail
    refine (HNEG.out _ _ _ _ _).mono ?_
    rintro e w6 ⟨rfl, rfl⟩
    go_wp2
    go_ret
    exact ⟨rfl, HKF.out⟩
  · have dl : decide (i < len) = false := decide_eq_false hlt
    go_wp2_with fail
    refine (HCO.out _).mono ?_
    rintro e w2 ⟨rfl, rfl⟩
    go_wp2_with fail
    refine HT.out.mono ?_
    rintro e w3 ⟨f, rfl, -, h3⟩
    have HKF := Lib.hid (HK0.out.trans h3.out.1.keeps (fun _ _ h => h))
    clear h3
    go_wp2_with fail
    refine (tConstNo sp a len cap i (by omega) (by omega)).mono ?_
    rintro e w4 ⟨rfl, rfl⟩
    go_wp2_with fail
    refine (tConstNo sp none 0 0 i (by omega) (by omega)).mono ?_
    rintro e w5 ⟨rfl, rfl⟩
    go_wp2_with fail
    refine (HNEG.out _ _ _ _ _).mono ?_
    rintro e w6 ⟨rfl, rfl⟩
    go_wp2
    go_ret
    exact ⟨rfl, HKF.out⟩

set_option maxRecDepth 100000 in
set_option maxHeartbeats 4000000 in
theorem textConstants_law (a : Option Addr) (len cap : Nat) (xs : Nat → ByteArray) (n : Int) (w : World) (hA : Arg w a len (fun i => .string (xs i))) (_hs : ∀ i, i < len → (xs i).size ≤ maxLen) :
    Calls Try.prog 13 #[.slice a len cap, .int .i64 n] w fun e w' => e = .returned (.bool true) ∧ Below w.heap.size w w' := by
  have HAN := Lib.hid (anchor13_calls w)
  clear _hs
  by_cases h1 : (100 : Int) < (len : Int)
  · have d1 : decide ((100 : Int) < (len : Int)) = true := decide_eq_true h1
    clear hA
    go_enter Try.func13, Try.ntmps13
    go_wp2_with fail
    refine HAN.out.mono ?_
    rintro e w0 ⟨rfl, hk0⟩
    have HK0 := Lib.hid hk0
    clear hk0
    go_wp2
    go_ret
    exact ⟨rfl, HK0.out.below (fun _ _ h => h)⟩
  have d1 : decide ((100 : Int) < (len : Int)) = false := decide_eq_false h1
  by_cases h2 : n < 0
  · have d2 : decide (n < 0) = true := decide_eq_true h2
    clear hA
    go_enter Try.func13, Try.ntmps13
    go_wp2_with fail
    refine HAN.out.mono ?_
    rintro e w0 ⟨rfl, hk0⟩
    have HK0 := Lib.hid hk0
    clear hk0
    go_wp2
    go_ret
    exact ⟨rfl, HK0.out.below (fun _ _ h => h)⟩
  have d2 : decide (n < 0) = false := decide_eq_false h2
  by_cases h3 : (1099511627776 : Int) < n
  · have d3 : decide ((1099511627776 : Int) < n) = true := decide_eq_true h3
    clear hA
    go_enter Try.func13, Try.ntmps13
    go_wp2_with fail
    refine HAN.out.mono ?_
    rintro e w0 ⟨rfl, hk0⟩
    have HK0 := Lib.hid hk0
    clear hk0
    go_wp2
    go_ret
    exact ⟨rfl, HK0.out.below (fun _ _ h => h)⟩
  have d3 : decide ((1099511627776 : Int) < n) = false := decide_eq_false h3
  obtain ⟨N, rfl⟩ := Int.eq_ofNat_of_zero_le (by omega : 0 ≤ n)
  exact (textConstants_calls w a len cap xs N (by omega) (by omega) hA).mono fun e w' ⟨he, hk⟩ => ⟨he, hk.below (fun _ _ h => h)⟩
end Go.Proofs.Ytnbiofcfphpikaa
