/-
  derricklaw06: the walk of step, the third kind: Free of any word.
-/
import Derived.Test.YtchoioajalpfoaaStep6
namespace Go.Proofs.Ytchoioajalpfoaa
open Go.RowKit

section
variable {w0 w : World} {B : HB} {rb : Nat} {H : HS}
theorem Duo.hfree_none {Hh Hr : HS} {bx : Nat} {x0 x1 x2 x3 : Int} (h : Duo w0 w B rb Hh Hr bx x0 x1 x2 x3) (hW : Hh.Wf) {x : Int} (e : Hh.roomI x = 0) (q : Nat) :
    Calls Try.prog 11 #[.pointer (some ⟨B.h, 0, none⟩), .int .i64 x] (w.drewN q) fun e w' => e = .returned (.bool false) ∧ ∃ m, w' = w.drewN m :=
  quiet_of (fun q => free_no (h.drewN q).heap hW x e) q
theorem Duo.rfree_none {Hh Hr : HS} {bx : Nat} {x0 x1 x2 x3 : Int} (h : Duo w0 w B rb Hh Hr bx x0 x1 x2 x3) (hW : Hr.Wf) {x : Int} (e : Hr.roomI x = 0) (q : Nat) :
    Calls Try.prog 27 #[.pointer (some ⟨rb, 0, none⟩), .int .i64 x] (w.drewN q) fun e w' => e = .returned (.bool false) ∧ ∃ m, w' = w.drewN m :=
  quiet_of (fun q => (h.drewN q).ref.rfree_no hW x e) q

set_option maxRecDepth 100000 in
set_option maxHeartbeats 4000000 in
theorem step6_3 (h : Play w0 w B rb H) (n k v : Int) :
    Calls Try.prog 18 #[.pointer (some ⟨B.h, 0, none⟩), .pointer (some ⟨rb, 0, none⟩), .agg #[.int .i64 3, .int .i64 n, .int .i64 k, .int .i64 v]] w fun e w' => e = .returned (.bool true) ∧ ∃ H', Hid (Play w0 w' B rb H') := by
  have HD := Lib.hid (h.box 43 3 n k v)
  have HW := Lib.hid h.wf
  by_cases hr : H.roomI n = 0
  · have H1 := Lib.hid (HD.out.hfree_none HW.out hr)
    have H2 := Lib.hid (HD.out.rfree_none HW.out hr)
    clear h hr
    go_enter Try.func18, Try.ntmps18
    go_wp2_with fail
    go_quiet (first | (go_at_call 11; exact H1.out _) | (go_at_call 27; exact H2.out _))
    go_wp2
    go_ret
    exact ⟨rfl, H, (HD.out.drewN _).play HW.out⟩
  · have H1 : Hid (∀ w2 Hr, Hid (Duo w0 w2 B rb H Hr w.heap.size 3 n k v) → Calls Try.prog 11 #[.pointer (some ⟨B.h, 0, none⟩), .int .i64 n] w2 fun e w' => e = .returned (.bool true) ∧ w'.cell? ⟨w.heap.size, 1, none⟩ = some (.int .i64 n) ∧ Hid (Duo w0 w' B rb (H.freeAt n.toNat) Hr w.heap.size 3 n k v)) := fun w2 Hr h2 => (h2.out.hfree_some HW.out hr).mono fun _ _ ⟨he, hd⟩ => ⟨he, hd.out.b1, hd⟩
    have H2 : Hid (∀ w2 Hh, Hid (Duo w0 w2 B rb Hh H w.heap.size 3 n k v) → Calls Try.prog 27 #[.pointer (some ⟨rb, 0, none⟩), .int .i64 n] w2 fun e w' => e = .returned (.bool true) ∧ w'.cell? ⟨w.heap.size, 1, none⟩ = some (.int .i64 n) ∧ Hid (Duo w0 w' B rb Hh (H.freeAt n.toNat) w.heap.size 3 n k v)) := fun w2 Hr h2 => (h2.out.rfree_some HW.out hr).mono fun _ _ ⟨he, hd⟩ => ⟨he, hd.out.b1, hd⟩
    have HW' : Hid (H.freeAt n.toNat).Wf := by
      unfold HS.roomI at hr
      split at hr
      · exact absurd rfl hr
      · exact (HW.out.free_takes hr).wf
    have HS0 : Hid ((w.alloc (.cells #[.int .i64 3, .int .i64 n, .int .i64 k, .int .i64 v] 43)).drew.cell? ⟨w.heap.size, 1, none⟩ = some (.int .i64 n)) := HD.out.b1
    have HD1 : Hid (Duo w0 (w.alloc (.cells #[.int .i64 3, .int .i64 n, .int .i64 k, .int .i64 v] 43)).drew B rb H H w.heap.size 3 n k v) := HD.out.drewN 1
    clear h hr
    go_enter Try.func18, Try.ntmps18
    go_wp2_with fail
    go_region_held3 (fun w' => w'.cell? ⟨w.heap.size, 1, none⟩ = some (.int .i64 n)) (first | exact HS0.out | assumption)
      (first | (go_at_call 11; refine (H1.out _ _ (by assumption)).mono ?_; rintro e w' ⟨rfl, hc, hd⟩) | (go_at_call 27; refine (H2.out _ _ (by assumption)).mono ?_; rintro e w' ⟨rfl, hc, hd⟩))
    all_goals go_wp2
    all_goals go_ret
    all_goals (refine ⟨rfl, H.freeAt n.toNat, Duo.play (Hid.out (by assumption)) HW'.out⟩)
end
end Go.Proofs.Ytchoioajalpfoaa
