/-
  Alloc and New, as the walks of other layers take them. (In the heap's own seat these stand in Anc.)
-/
import Derived.Test.YtnbiofcfphpikaaW7
import Derived.Test.YtnbiofcfphpikaaSeq
namespace Go.Proofs.Ytnbiofcfphpikaa
open Go.RowKit

/-- An Alloc that is known to succeed. -/
theorem alloc_yes {w : World} {B : HB} {H : HS} (hA : HeapAt w B H) (hW : H.Wf) {x : Int} {a : Nat} {H' : HS} (h : H.alloc x = some (a, H')) :
    Calls Try.prog 55 #[.pointer (some ⟨B.h, 0, none⟩), .int .i64 x] w fun e w' => e = .returned (.tuple #[.int .i64 a, .bool true]) ∧ HeapAt w' B H' ∧ Keeps B.wr w w' ∧ w'.heap.size = w.heap.size := by
  have := alloc_calls hA hW x
  rw [h] at this
  exact this
theorem alloc_no {w : World} {B : HB} {H : HS} (hA : HeapAt w B H) (hW : H.Wf) {x : Int} (h : H.alloc x = none) :
    Calls Try.prog 55 #[.pointer (some ⟨B.h, 0, none⟩), .int .i64 x] w fun e w' => e = .returned (.tuple #[.int .i64 0, .bool false]) ∧ ∃ q, w' = w.drewN q := by
  have := alloc_calls hA hW x
  rw [h] at this
  exact this
/-- What a new heap is to the call that makes it. -/
def Fresh (w w' : World) (B : HB) (H : HS) : Prop := HeapAt w' B H ∧ Keeps (fun _ => False) w w' ∧ (∀ k, B.fp k → w.heap.size ≤ k)
theorem Fresh.on {w a b : World} {B : HB} {H H' : HS} (h : Fresh w a B H) (hA : HeapAt b B H') (hK : Keeps B.wr a b) : Fresh w b B H' :=
  ⟨hA, h.2.1.trans hK (fun k hk hw => by have := h.2.2 k (.inr hw); omega), h.2.2⟩
theorem Fresh.drewN {w a : World} {B : HB} {H : HS} (h : Fresh w a B H) (q : Nat) : Fresh w (a.drewN q) B H := ⟨h.1.drewN q, h.2.1.drewN q, h.2.2⟩
theorem new_calls (w : World) (x : Nat) (h1 : 128 ≤ x) (h2 : x ≤ 1048576) :
    Calls Try.prog 53 #[.int .i64 x] w fun e w' => ∃ B : HB, e = .returned (.pointer (some ⟨B.h, 0, none⟩)) ∧ Hid (Fresh w w' B (HS.new x)) :=
  (new_yes w x h1 h2).mono fun _ _ ⟨B, he, hA, hK, hf⟩ => ⟨B, he, hA, hK, hf⟩

end Go.Proofs.Ytnbiofcfphpikaa
