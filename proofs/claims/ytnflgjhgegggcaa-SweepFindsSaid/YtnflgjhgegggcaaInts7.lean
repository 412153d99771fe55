/-
  derricklaw07: the walk of ints at equal lists.
-/
import Derived.Test.YtnflgjhgegggcaaW8
namespace Go.Proofs.Ytnflgjhgegggcaa
open Go.RowKit

set_option maxRecDepth 100000 in
set_option maxHeartbeats 4000000 in
theorem ints7_yes (w : World) (a1 a2 : Option Addr) (c1 c2 : Nat) (l : List Int) (h1 : Arg w a1 l.length (fun i => .int .i64 (l.getD i 0))) (h2 : Arg w a2 l.length (fun i => .int .i64 (l.getD i 0))) (hl : l.length ≤ 1000000000) :
    Calls Try.prog 13 #[.slice a1 l.length c1, .slice a2 l.length c2] w fun e w' => e = .returned (.bool true) ∧ w' = w := by
  have H1 := Lib.hid h1
  have H2 := Lib.hid h2
  clear h1 h2
  generalize l.length = n at *
  go_enter Try.func13, Try.ntmps13
  go_wp2
  go_loopw [14] (fun i wr => ∃ k : Nat, k ≤ n ∧ i = .int .i64 k ∧ wr = w) (fun i _ => n - (intOf i).toNat)
  case atStart => exact ⟨0, Nat.zero_le _, rfl, rfl⟩
  case round =>
    obtain ⟨k, hk, rfl, rfl⟩ := hrel
    by_cases hlt : k < n
    · have dk : decide (k < n) = true := decide_eq_true hlt
      obtain ⟨b1, o1, rfl, e1⟩ := H1.out.get hlt
      obtain ⟨b2, o2, rfl, e2⟩ := H2.out.get hlt
      generalize l.getD k 0 = y at *
      go_wp2
      go_roundw
      case rel => exact ⟨k + 1, by omega, by go_num, by first | rfl | trivial⟩
      case measure => simp [intOf]; omega
    · obtain rfl : n = k := by omega
      have dk : decide (n < n) = false := by simp
      go_wp2
      go_ret
      exact ⟨rfl, rfl⟩
end Go.Proofs.Ytnflgjhgegggcaa
