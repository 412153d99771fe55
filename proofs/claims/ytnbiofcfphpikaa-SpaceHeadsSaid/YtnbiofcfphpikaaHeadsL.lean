/-
  SpaceHeads: the law.
-/
import Derived.Test.YtnbiofcfphpikaaHeadsW
namespace Go.Proofs.Ytnbiofcfphpikaa
open Go.RowKit

set_option maxRecDepth 100000 in
set_option maxHeartbeats 4000000 in
theorem spaceHeads_law (a : Option Addr) (len cap : Nat) (xs : Nat → Nat → Int) (w : World) (hA : ArgK w a len 3 xs) :
    Calls Try.prog 4 #[.slice a len cap] w fun e w' => e = .returned (.bool true) ∧ Below w.heap.size w w' := by
  have HAN := Lib.hid (anchor_calls w)
  by_cases h1 : (40 : Int) < (len : Int)
  · have d1 : decide ((40 : Int) < (len : Int)) = true := decide_eq_true h1
    clear hA
    go_enter Try.func4, Try.ntmps4
    go_wp2_with fail
    refine HAN.out.mono ?_
    rintro e w0 ⟨rfl, hk0⟩
    have HK0 := Lib.hid hk0
    clear hk0
    go_wp2
    go_ret
    exact ⟨rfl, HK0.out.below (fun _ _ h => h)⟩
  have d1 : decide ((40 : Int) < (len : Int)) = false := decide_eq_false h1
  refine (spaceHeads_calls w a len cap (by omega) xs hA).mono ?_
  rintro e w' ⟨he, hk⟩
  exact ⟨he, hk.below (fun _ _ h => h)⟩
end Go.Proofs.Ytnbiofcfphpikaa
