/-
  SweepFinds: the law.
-/
import Derived.Test.YtnflgjhgegggcaaFinds
import Derived.Test.YtnflgjhgegggcaaOpenR
import Derived.Below
namespace Go.Proofs.Ytnflgjhgegggcaa
open Go.RowKit

set_option maxRecDepth 100000 in
set_option maxHeartbeats 4000000 in
theorem sweepFinds_law (a : Option Addr) (len cap : Nat) (R : Nat → RawE) (a1 : Option Addr) (n1 c1 : Nat) (z1 : Nat → Int) (w : World)
    (hR : RawArg w a len R) (h1 : ArgI w a1 n1 c1 z1) :
    Calls Try.prog 4 #[.slice a len cap, .slice a1 n1 c1] w fun e w' => e = .returned (.bool true) ∧ Below w.heap.size w w' := by
  have HAN := Lib.hid (anchor7_calls w)
  have HFW : Hid (∀ w0, Keeps (fun _ => False) w w0 → Calls Try.prog 11 #[.slice a len cap] w0 fun e w' => ∃ b, e = .returned (.bool b) ∧ (b = true ↔ Few R len) ∧ Hid (Keeps (fun _ => False) w0 w')) := fun w0 hk => few_calls w0 a len cap R (hR.keep hk)
  by_cases hF : Few R len
  · have HFT : Hid (∀ w0, Keeps (fun _ => False) w w0 → Calls Try.prog 11 #[.slice a len cap] w0 fun e w' => e = .returned (.bool true) ∧ Keeps (fun _ => False) w0 w') := fun w0 hk => (HFW.out w0 hk).mono fun e w' ⟨b, he, hb, hk'⟩ => ⟨by rw [he, hb.2 hF], hk'.out⟩
    by_cases g1 : n1 ≤ 100
    · exact (Finds.finds_calls w a len cap R hR hF a1 n1 c1 z1 h1 g1 HAN.out HFT.out).mono fun e w' ⟨he, hk⟩ => ⟨he, hk.below (fun _ _ h => h)⟩
    · have d1 : decide ((100 : Int) < (n1 : Int)) = true := decide_eq_true (by omega)
      clear hF HFW hR h1 g1
      go_enter Try.func4, Try.ntmps4
      go_wp2_with fail
      refine HAN.out.mono ?_
      rintro e w0 ⟨rfl, hk0⟩
      have HK0 := Lib.hid hk0
      have HF0 := Lib.hid (HFT.out w0 hk0)
      clear hk0 HFT HAN
      go_wp2_with fail
      refine HF0.out.mono ?_
      rintro e w1 ⟨rfl, hk1⟩
      have HK1 : Hid (Keeps (fun _ => False) w w1) := HK0.out.trans hk1 (fun _ _ h => h)
      clear hk1 HF0
      go_wp2
      go_ret
      exact ⟨rfl, HK1.out.below (fun _ _ h => h)⟩
  · have HFT : Hid (∀ w0, Keeps (fun _ => False) w w0 → Calls Try.prog 11 #[.slice a len cap] w0 fun e w' => e = .returned (.bool false) ∧ Keeps (fun _ => False) w0 w') := fun w0 hk => (HFW.out w0 hk).mono fun e w' ⟨b, he, hb, hk'⟩ => ⟨by
      rw [he]
      cases b with
      | false => rfl
      | true => exact absurd (hb.1 rfl) hF, hk'.out⟩
    clear hF HFW hR h1
    go_enter Try.func4, Try.ntmps4
    go_wp2_with fail
    refine HAN.out.mono ?_
    rintro e w0 ⟨rfl, hk0⟩
    have HK0 := Lib.hid hk0
    have HF0 := Lib.hid (HFT.out w0 hk0)
    clear hk0 HFT HAN
    go_wp2_with fail
    refine HF0.out.mono ?_
    rintro e w1 ⟨rfl, hk1⟩
    have HK1 : Hid (Keeps (fun _ => False) w w1) := HK0.out.trans hk1 (fun _ _ h => h)
    clear hk1 HF0
    go_wp2
    go_ret
    exact ⟨rfl, HK1.out.below (fun _ _ h => h)⟩
end Go.Proofs.Ytnflgjhgegggcaa
