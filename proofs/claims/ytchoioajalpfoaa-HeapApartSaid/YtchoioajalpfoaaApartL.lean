/-
  HeapApart: the law.
-/
import Derived.Test.YtchoioajalpfoaaApart
import Derived.Below
namespace Go.Proofs.Ytchoioajalpfoaa
open Go.RowKit

set_option maxRecDepth 100000 in
set_option maxHeartbeats 4000000 in
theorem heapApart_law (x : Int) (a1 : Option Addr) (len cap : Nat) (zs : Nat → Int) (a2 : Option Addr) (flen fcap : Nat) (fs : Nat → Bool) (w : World) (hA1 : Arg w a1 len (fun i => .int .i64 (zs i))) (hA2 : Arg w a2 flen (fun i => .bool (fs i))) :
    Calls Try.prog 5 #[.int .i64 x, .slice a1 len cap, .slice a2 flen fcap] w fun e w' => e = .returned (.bool true) ∧ Below w.heap.size w w' := by
  have HAN := Lib.hid (anchor_calls w)
  by_cases h1 : x < 128
  · have d1 : decide (x < 128) = true := decide_eq_true h1
    clear hA1 hA2
    go_enter Try.func5, Try.ntmps5
    go_wp2_with fail
    refine HAN.out.mono ?_
    rintro e w0 ⟨rfl, hk0⟩
    have HK0 := Lib.hid hk0
    clear hk0
    go_wp2
    go_ret
    exact ⟨rfl, HK0.out.below (fun _ _ h => h)⟩
  have d1 : decide (x < 128) = false := decide_eq_false h1
  by_cases h2 : (8192 : Int) < x
  · have d2 : decide ((8192 : Int) < x) = true := decide_eq_true h2
    clear hA1 hA2
    go_enter Try.func5, Try.ntmps5
    go_wp2_with fail
    refine HAN.out.mono ?_
    rintro e w0 ⟨rfl, hk0⟩
    have HK0 := Lib.hid hk0
    clear hk0
    go_wp2
    go_ret
    exact ⟨rfl, HK0.out.below (fun _ _ h => h)⟩
  have d2 : decide ((8192 : Int) < x) = false := decide_eq_false h2
  by_cases h3 : (300 : Int) < (len : Int)
  · have d3 : decide ((300 : Int) < (len : Int)) = true := decide_eq_true h3
    clear hA1 hA2
    go_enter Try.func5, Try.ntmps5
    go_wp2_with fail
    refine HAN.out.mono ?_
    rintro e w0 ⟨rfl, hk0⟩
    have HK0 := Lib.hid hk0
    clear hk0
    go_wp2
    go_ret
    exact ⟨rfl, HK0.out.below (fun _ _ h => h)⟩
  obtain ⟨n, rfl⟩ : ∃ n : Nat, x = (n : Int) := ⟨x.toNat, by omega⟩
  refine (ApartLaw.main w n (by omega) (by omega) a1 len cap (by omega) zs hA1 a2 flen fcap fs hA2).mono ?_
  rintro e w' ⟨he, hk⟩
  exact ⟨he, hk.below (fun _ _ h => h)⟩
end Go.Proofs.Ytchoioajalpfoaa
