/-
  MailPlays: the law.
-/
import Derived.Test.YtnbiofcfphpikaaMPlays
namespace Go.Proofs.Ytnbiofcfphpikaa
open Go.RowKit

set_option maxRecDepth 100000 in
set_option maxHeartbeats 4000000 in
theorem mailPlays_law (P : Int) (refs : Bool) (a : Option Addr) (len cap : Nat) (xs : Nat → Nat → Int) (w : World) (hA : ArgK w a len 2 xs) :
    Calls Try.prog 9 #[.int .i64 P, .bool refs, .slice a len cap] w fun e w' => e = .returned (.bool true) ∧ Below w.heap.size w w' := by
  have HAN := Lib.hid (anchor15_calls w)
  by_cases h1 : (300 : Int) < (len : Int)
  · have d1 : decide ((300 : Int) < (len : Int)) = true := decide_eq_true h1
    clear hA
    go_enter Try.func9, Try.ntmps9
    go_wp2_with fail
    refine HAN.out.mono ?_
    rintro e w0 ⟨rfl, hk0⟩
    have HK0 := Lib.hid hk0
    clear hk0
    go_wp2
    go_ret
    exact ⟨rfl, HK0.out.below (fun _ _ h => h)⟩
  have d1 : decide ((300 : Int) < (len : Int)) = false := decide_eq_false h1
  by_cases hp : P < 0
  · have d2 : decide ((0 : Int) ≤ P) = false := decide_eq_false (by omega)
    have HNW := Lib.hid (fun w => sNew w 16384 (by omega) (by omega))
    have HB : Hid (P < 0 ∨ 1024 < P) := .inl hp
    clear hA
    go_enter Try.func9, Try.ntmps9
    go_wp2_with fail
    refine HAN.out.mono ?_
    rintro e w0 ⟨rfl, hk0⟩
    have HK0 := Lib.hid hk0
    clear hk0
    go_wp2_with fail
    refine (HNW.out w0).mono ?_
    rintro e w1 ⟨sp, rfl, h1⟩
    have H1 := Lib.hid (mNewBad h1.out P refs HB.out)
    have HF : Hid (Keeps (fun _ => False) w w1) := HK0.out.trans h1.out.keeps (fun _ _ h => h)
    clear h1
    go_wp2_with fail
    refine H1.out.mono ?_
    rintro e w2 ⟨rfl, rfl⟩
    go_wp2
    go_ret
    exact ⟨rfl, HF.out.below (fun _ _ h => h)⟩
  by_cases hq : 1024 < P
  · have d2 : decide ((0 : Int) ≤ P) = true := decide_eq_true (by omega)
    have d3 : decide (P ≤ 1024) = false := decide_eq_false (by omega)
    have HNW := Lib.hid (fun w => sNew w 16384 (by omega) (by omega))
    have HB : Hid (P < 0 ∨ 1024 < P) := .inr hq
    clear hA
    go_enter Try.func9, Try.ntmps9
    go_wp2_with fail
    refine HAN.out.mono ?_
    rintro e w0 ⟨rfl, hk0⟩
    have HK0 := Lib.hid hk0
    clear hk0
    go_wp2_with fail
    refine (HNW.out w0).mono ?_
    rintro e w1 ⟨sp, rfl, h1⟩
    have H1 := Lib.hid (mNewBad h1.out P refs HB.out)
    have HF : Hid (Keeps (fun _ => False) w w1) := HK0.out.trans h1.out.keeps (fun _ _ h => h)
    clear h1
    go_wp2_with fail
    refine H1.out.mono ?_
    rintro e w2 ⟨rfl, rfl⟩
    go_wp2
    go_ret
    exact ⟨rfl, HF.out.below (fun _ _ h => h)⟩
  obtain ⟨n, rfl⟩ : ∃ n : Nat, P = n := ⟨P.toNat, by omega⟩
  refine (mailPlays_calls w n refs (by omega) a len cap (by omega) xs hA).mono ?_
  rintro e w' ⟨he, hk⟩
  exact ⟨he, hk.below (fun _ _ h => h)⟩
end Go.Proofs.Ytnbiofcfphpikaa
