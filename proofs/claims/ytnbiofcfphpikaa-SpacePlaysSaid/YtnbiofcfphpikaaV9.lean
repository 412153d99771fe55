/-
  The walk of space.Told.
-/
import Derived.Test.YtnbiofcfphpikaaV8
import Derived.Deep.RegionHeld3
namespace Go.Proofs.Ytnbiofcfphpikaa
open Go.RowKit

set_option maxRecDepth 100000 in
set_option maxHeartbeats 4000000 in
theorem told_calls {w wr : World} {B : HB} {sp : Nat} {hv : Value} {H : HS} {held : List Int} {n : Nat} (h : SpaceAt w wr B sp hv H held n) :
    Calls Try.prog 26 #[.pointer (some ⟨sp, 0, none⟩)] wr fun e w' => e = .returned (.tuple #[.int .i64 H.blocks.length, .int .i64 n, .int .i64 H.spans]) ∧ Hid (SpaceAt w w' B sp hv H held n ∧ Keeps (fun _ => False) wr w') := by
  have hc1 := h.c1
  have hc3 := h.c3
  have HS0 : Hid (SpaceAt w wr B sp hv H held n ∧ Keeps (fun _ => False) wr wr) := ⟨h, Keeps.refl _ _⟩
  have HBL : Hid (∀ wx, Hid (SpaceAt w wx B sp hv H held n ∧ Keeps (fun _ => False) wr wx) → Calls Try.prog 59 #[.pointer (some ⟨B.h, 0, none⟩)] wx fun e w' => ∃ a cap, e = .returned (.slice a H.blocks.length cap) ∧ (w'.cell? ⟨sp, 1, none⟩ = some (.pointer (some ⟨B.h, 0, none⟩)) ∧ w'.cell? ⟨sp, 3, none⟩ = some (.int .i64 n) ∧ Hid (SpaceAt w w' B sp hv H held n ∧ Keeps (fun _ => False) wr w'))) := by
    intro wx hx
    refine (blocks_calls hx.out.1.heap hx.out.1.wf).mono ?_
    rintro e w' ⟨a, cap, rfl, hM⟩
    have h' := hx.out.1.other0 hM.out.keeps
    exact ⟨a, cap, rfl, h'.c1, h'.c3, h', hx.out.2.trans hM.out.keeps (fun _ _ h => h)⟩
  have HSP : Hid (∀ wx, Hid (SpaceAt w wx B sp hv H held n ∧ Keeps (fun _ => False) wr wx) → Calls Try.prog 60 #[.pointer (some ⟨B.h, 0, none⟩)] wx fun e w' => e = .returned (.int .i64 H.spans) ∧ wx = w') := fun wx hx => spans_calls hx.out.1.heap hx.out.1.wf
  clear h
  generalize H.blocks.length = nb at *
  generalize H.spans = ns at *
  go_enter Try.func26, Try.ntmps26
  go_wp2_with fail
  go_region_held3 (fun w' => w'.cell? ⟨sp, 1, none⟩ = some (.pointer (some ⟨B.h, 0, none⟩)) ∧ w'.cell? ⟨sp, 3, none⟩ = some (.int .i64 n) ∧ Hid (SpaceAt w w' B sp hv H held n ∧ Keeps (fun _ => False) wr w'))
    (first | exact ⟨hc1, hc3, HS0.out.1.drewN 1, HS0.out.2.drewN 1⟩ | (refine ⟨?_, ?_, ?_⟩ <;> assumption))
    (first | (go_at_call 59; refine (HBL.out _ (by first | assumption | exact ⟨HS0.out.1.drewN 1, HS0.out.2.drewN 1⟩)).mono ?_; rintro e w' ⟨a, cap, rfl, hx1, hx2, hx3⟩) | (go_at_call 60; refine (HSP.out _ (by first | assumption | exact ⟨HS0.out.1.drewN 1, HS0.out.2.drewN 1⟩)).mono ?_; rintro e w' ⟨rfl, rfl⟩))
  go_wp2
  go_ret3
  exact ⟨rfl, by assumption⟩
end Go.Proofs.Ytnbiofcfphpikaa
