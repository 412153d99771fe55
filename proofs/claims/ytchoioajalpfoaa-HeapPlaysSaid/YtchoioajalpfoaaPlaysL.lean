/-
  HeapPlays: the walk and the law.
-/
import Derived.Test.YtchoioajalpfoaaStep6d
import Derived.Test.YtchoioajalpfoaaArgK
import Derived.Below
namespace Go.Proofs.Ytchoioajalpfoaa
open Go.RowKit

set_option maxRecDepth 100000 in
set_option maxHeartbeats 4000000 in
theorem heapPlays_main (w : World) (x : Nat) (h1 : 128 ≤ x) (h2 : x ≤ 4096) (a : Option Addr) (len cap : Nat) (hlen : len ≤ 200) (xs : Nat → Nat → Int) (hA : ArgK w a len 4 xs) :
    Calls Try.prog 6 #[.int .i64 x, .slice a len cap] w fun e w' => e = .returned (.bool true) ∧ Keeps (fun _ => False) w w' := by
  have HAN := Lib.hid (anchor_calls w)
  have HNW := fun w => Lib.hid (new_calls w x h1 (by omega))
  have HRN := fun (w0 w : World) h0 R hR => Lib.hid (rnew_yes w0 w h0 R hR x h1 (by omega))
  have HW0 : Hid (HS.new x).Wf := new_wf h1 (by omega)
  have d1 : decide ((4096 : Int) < (x : Int)) = false := decide_eq_false (by omega)
  have d2 : decide ((200 : Int) < (len : Int)) = false := decide_eq_false (by omega)
  have HA := Lib.hid hA
  clear hA
  go_enter Try.func6, Try.ntmps6
  go_wp2_with fail
  refine HAN.out.mono ?_
  rintro e w0 ⟨rfl, hk0⟩
  have HK0 := Lib.hid hk0
  clear hk0
  go_wp2_with fail
  refine (HNW w0).out.mono ?_
  rintro e w1 ⟨B, rfl, hf⟩
  have HRN2 := HRN w0 w1 hf.out.2.1.size B.fp hf.out.1.lt
  clear HRN
  go_wp2_with fail
  refine HRN2.out.mono ?_
  rintro e w2 ⟨rb, rfl, hr⟩
  have HP0 : Hid (Play w0 w2 B rb (HS.new x)) := ⟨hf.out.2.1.trans hr.out.2 (fun _ _ h => h), hf.out.1.keep hr.out.2 (fun _ _ h => h), hr.out.1, hf.out.2.2, HW0.out⟩
  clear HRN2 hr hf HNW HAN
  go_wp2
  go_loopw [40] (fun i wr => ∃ k : Nat, k ≤ len ∧ i = .int .i64 k ∧ ∃ H, Hid (Play w0 wr B rb H)) (fun i _ => len - (intOf i).toNat)
  case atStart => exact ⟨0, Nat.zero_le _, rfl, _, HP0⟩
  case round =>
    clear HP0
    obtain ⟨k, hk, rfl, H, hP⟩ := hrel
    by_cases hlt : k < len
    · have dk : decide (k < len) = true := decide_eq_true hlt
      obtain ⟨b, o, rfl, hc⟩ := ((HA.out.keep HK0.out).keep hP.out.keeps).get hlt
      have q0 := hc 0 (by omega)
      have q1 := hc 1 (by omega)
      have q2 := hc 2 (by omega)
      have q3 := hc 3 (by omega)
      rw [Nat.add_zero] at q0
      have HST := fun w' (hp : Hid (Play w0 w' B rb H)) => Lib.hid (step6_calls hp.out (xs k 0) (xs k 1) (xs k 2) (xs k 3))
      clear hc
      generalize xs k 0 = y0 at *
      generalize xs k 1 = y1 at *
      generalize xs k 2 = y2 at *
      generalize xs k 3 = y3 at *
      have HP1 : ∀ ob, Hid (Play w0 (wr.alloc ob) B rb H) := fun ob => hP.out.alloc ob
      go_wp2_with fail
      refine (HST _ (HP1 _)).out.mono ?_
      rintro e w3 ⟨rfl, H3, h3⟩
      have HSM := Lib.hid (same_calls h3.out.heap h3.out.ref h3.out.wf)
      go_wp2_with fail
      refine HSM.out.mono ?_
      rintro e w4 ⟨rfl, hk4⟩
      have HP4 := Lib.hid (h3.out.keep0 hk4)
      clear hk4
      go_wp2
      go_roundw
      case rel => exact ⟨k + 1, by omega, by go_num, _, HP4⟩
      case measure => simp [intOf]; omega
    · obtain rfl : len = k := by omega
      have dk : decide (len < len) = false := by simp
      go_wp2
      go_ret
      exact ⟨rfl, HK0.out.trans hP.out.keeps (fun _ _ h => h)⟩
set_option maxRecDepth 100000 in
set_option maxHeartbeats 4000000 in
theorem heapPlays_law (x : Int) (a : Option Addr) (len cap : Nat) (xs : Nat → Nat → Int) (w : World) (hA : ArgK w a len 4 xs) :
    Calls Try.prog 6 #[.int .i64 x, .slice a len cap] w fun e w' => e = .returned (.bool true) ∧ Below w.heap.size w w' := by
  have HAN := Lib.hid (anchor_calls w)
  by_cases h1 : x < 128 ∨ 1048576 < x
  · have HNW := fun w => Lib.hid (new_no w x h1)
    have HRN := fun w => Lib.hid (rnew_no w x h1)
    clear hA h1
    go_enter Try.func6, Try.ntmps6
    go_wp2_with fail
    refine HAN.out.mono ?_
    rintro e w0 ⟨rfl, hk0⟩
    have HK0 := Lib.hid hk0
    clear hk0
    go_wp2_with fail
    refine (HNW w0).out.mono ?_
    rintro e w1 ⟨rfl, rfl⟩
    go_wp2_with fail
    refine (HRN w0).out.mono ?_
    rintro e w1 ⟨rfl, rfl⟩
    go_wp2
    go_ret
    exact ⟨rfl, HK0.out.below (fun _ _ h => h)⟩
  obtain ⟨n, rfl⟩ : ∃ n : Nat, x = (n : Int) := ⟨x.toNat, by omega⟩
  by_cases h2 : 4096 < n ∨ 200 < len
  · have HNW := fun w => Lib.hid (new_calls w n (by omega) (by omega))
    have HRN := fun (w : World) => Lib.hid (rnew_yes w w (Nat.le_refl _) (fun _ => False) (fun _ h => h.elim) n (by omega) (by omega))
    have fin : Hid (∀ w0 w1 w2 B rb, Hid (Keeps (fun _ => False) w w0) → Hid (Fresh w0 w1 B (HS.new n)) → Hid (RefA w1 w2 (fun _ => False) rb (HS.new n) ∧ Keeps (fun _ => False) w1 w2) → Below w.heap.size w w2) := fun w0 w1 w2 B rb h0 h1 h2 =>
      ((h0.out.trans h1.out.2.1 (fun _ _ h => h)).trans h2.out.2 (fun _ _ h => h)).below (fun _ _ h => h)
    clear hA
    by_cases h3 : 4096 < n
    · have d1 : decide ((4096 : Int) < (n : Int)) = true := decide_eq_true (by omega)
      go_enter Try.func6, Try.ntmps6
      go_wp2_with fail
      refine HAN.out.mono ?_
      rintro e w0 ⟨rfl, hk0⟩
      have HK0 := Lib.hid hk0
      clear hk0
      go_wp2_with fail
      refine (HNW w0).out.mono ?_
      rintro e w1 ⟨B, rfl, hf⟩
      go_wp2_with fail
      refine (HRN w1).out.mono ?_
      rintro e w2 ⟨rb, rfl, hr⟩
      go_wp2
      go_ret
      exact ⟨rfl, fin.out _ _ _ _ _ HK0 hf hr⟩
    · have d1 : decide ((4096 : Int) < (n : Int)) = false := decide_eq_false (by omega)
      have d2 : decide ((200 : Int) < (len : Int)) = true := decide_eq_true (by omega)
      go_enter Try.func6, Try.ntmps6
      go_wp2_with fail
      refine HAN.out.mono ?_
      rintro e w0 ⟨rfl, hk0⟩
      have HK0 := Lib.hid hk0
      clear hk0
      go_wp2_with fail
      refine (HNW w0).out.mono ?_
      rintro e w1 ⟨B, rfl, hf⟩
      go_wp2_with fail
      refine (HRN w1).out.mono ?_
      rintro e w2 ⟨rb, rfl, hr⟩
      go_wp2
      go_ret
      exact ⟨rfl, fin.out _ _ _ _ _ HK0 hf hr⟩
  refine (heapPlays_main w n (by omega) (by omega) a len cap (by omega) xs hA).mono ?_
  rintro e w' ⟨he, hk⟩
  exact ⟨he, hk.below (fun _ _ h => h)⟩
end Go.Proofs.Ytchoioajalpfoaa
