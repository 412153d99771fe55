/-
  The document's example of the heap: the walk of anchor.
-/
import Derived.Test.YtchoioajalpfoaaW7
import Derived.Test.YtchoioajalpfoaaSeq
namespace Go.Proofs.Ytchoioajalpfoaa
open Go.RowKit

def HS.st (H : HS) (x : Int) : HS := match H.alloc x with
  | some (_, H') => H'
  | none => H
theorem HS.alloc_known {H : HS} {x : Int} {a : Nat} (h : (H.alloc x).map Prod.fst = some a) : H.alloc x = some (a, H.st x) := by
  unfold HS.st
  cases hx : H.alloc x with
  | none => rw [hx] at h; cases h
  | some p =>
    rw [hx] at h
    simp at h
    obtain ⟨b, H'⟩ := p
    simp at h
    subst h
    rfl
theorem HS.st_wf {H : HS} (hW : H.Wf) {x : Int} {a : Nat} (h : (H.alloc x).map Prod.fst = some a) : (H.st x).Wf := (hW.alloc_adds (HS.alloc_known h)).2.2.wf

namespace Anc
def A0 : HS := HS.new 256
def A1 : HS := A0.st 3
def A2 : HS := A1.st 4
def A3 : HS := A2.st 2
def A4 : HS := A3.freeAt 64
def A5 : HS := A4.st 1
def A6 : HS := A5.st 3
theorem f1 : (A0.alloc 3).map Prod.fst = some 64 := by decide +kernel
theorem f2 : (A1.alloc 4).map Prod.fst = some 68 := by decide +kernel
theorem f3 : (A2.alloc 2).map Prod.fst = some 128 := by decide +kernel
theorem f4 : (A3.alloc 65).map Prod.fst = none := by decide +kernel
theorem f4n : A3.alloc 65 = none := by have := f4; cases h : A3.alloc 65 with
  | none => rfl
  | some p => rw [h] at this; cases this
theorem f5 : A3.roomI 64 = 4 := by decide +kernel
theorem f6 : (A4.alloc 1).map Prod.fst = some 130 := by decide +kernel
theorem f7 : (A5.alloc 3).map Prod.fst = some 64 := by decide +kernel
theorem w0 : A0.Wf := new_wf (by omega) (by omega)
theorem w1 : A1.Wf := HS.st_wf w0 f1
theorem w2 : A2.Wf := HS.st_wf w1 f2
theorem w3 : A3.Wf := HS.st_wf w2 f3
theorem w4 : A4.Wf := by
  have h := f5
  unfold HS.roomI at h
  rw [if_neg (by omega)] at h
  exact (w3.free_takes (a := 64) (by show A3.room (Int.toNat 64) ≠ 0; rw [h]; omega)).wf
theorem w5 : A5.Wf := HS.st_wf w4 f6
end Anc

/-- An Alloc that is known to succeed. -/
theorem alloc_yes {w : World} {B : HB} {H : HS} (hA : HeapAt w B H) (hW : H.Wf) {x : Int} {a : Nat} {H' : HS} (h : H.alloc x = some (a, H')) :
    Calls Try.prog 10 #[.pointer (some ⟨B.h, 0, none⟩), .int .i64 x] w fun e w' => e = .returned (.tuple #[.int .i64 a, .bool true]) ∧ HeapAt w' B H' ∧ Keeps B.wr w w' ∧ w'.heap.size = w.heap.size := by
  have := alloc_calls hA hW x
  rw [h] at this
  exact this
theorem alloc_no {w : World} {B : HB} {H : HS} (hA : HeapAt w B H) (hW : H.Wf) {x : Int} (h : H.alloc x = none) :
    Calls Try.prog 10 #[.pointer (some ⟨B.h, 0, none⟩), .int .i64 x] w fun e w' => e = .returned (.tuple #[.int .i64 0, .bool false]) ∧ ∃ q, w' = w.drewN q := by
  have := alloc_calls hA hW x
  rw [h] at this
  exact this
/-- What a new heap is to the call that makes it. -/
def Fresh (w w' : World) (B : HB) (H : HS) : Prop := HeapAt w' B H ∧ Keeps (fun _ => False) w w' ∧ (∀ k, B.fp k → w.heap.size ≤ k)
theorem Fresh.on {w a b : World} {B : HB} {H H' : HS} (h : Fresh w a B H) (hA : HeapAt b B H') (hK : Keeps B.wr a b) : Fresh w b B H' :=
  ⟨hA, h.2.1.trans hK (fun k hk hw => by have := h.2.2 k (.inr hw); omega), h.2.2⟩
theorem Fresh.drewN {w a : World} {B : HB} {H : HS} (h : Fresh w a B H) (q : Nat) : Fresh w (a.drewN q) B H := ⟨h.1.drewN q, h.2.1.drewN q, h.2.2⟩
theorem new_calls (w : World) (x : Nat) (h1 : 128 ≤ x) (h2 : x ≤ 1048576) :
    Calls Try.prog 9 #[.int .i64 x] w fun e w' => ∃ B : HB, e = .returned (.pointer (some ⟨B.h, 0, none⟩)) ∧ Hid (Fresh w w' B (HS.new x)) :=
  (new_yes w x h1 h2).mono fun _ _ ⟨B, he, hA, hK, hf⟩ => ⟨B, he, hA, hK, hf⟩

set_option maxHeartbeats 1000000 in
theorem anchor_calls (w : World) : Calls Try.prog 8 #[] w fun e w' => e = .returned (.bool true) ∧ Keeps (fun _ => False) w w' := by
  go_enter Try.func8, Try.ntmps8
  go_wp2_with fail
  refine (new_calls w 256 (by omega) (by omega)).mono ?_
  rintro e w1 ⟨B, rfl, h1⟩
  go_wp2_with fail
  refine (alloc_yes h1.out.1 Anc.w0 (HS.alloc_known Anc.f1)).mono ?_
  rintro e w2 ⟨rfl, hA, hK, -⟩
  have h2 := Lib.hid (h1.out.on hA hK)
  clear hA hK h1
  go_wp2_with fail
  refine (alloc_yes h2.out.1 Anc.w1 (HS.alloc_known Anc.f2)).mono ?_
  rintro e w3 ⟨rfl, hA, hK, -⟩
  have h3 := Lib.hid (h2.out.on hA hK)
  clear hA hK h2
  go_wp2_with fail
  refine (alloc_yes h3.out.1 Anc.w2 (HS.alloc_known Anc.f3)).mono ?_
  rintro e w4 ⟨rfl, hA, hK, -⟩
  have h4 := Lib.hid (h3.out.on hA hK)
  clear hA hK h3
  go_wp2_with fail
  refine (alloc_no h4.out.1 Anc.w3 Anc.f4n).mono ?_
  rintro e w5 ⟨rfl, q, rfl⟩
  go_wp2_with fail
  refine (free_calls (h4.out.drewN q).1 Anc.w3 64 (by show Anc.A3.roomI 64 ≠ 0; rw [Anc.f5]; omega)).mono ?_
  rintro e w6 ⟨rfl, hA, hK, -⟩
  have h6 := Lib.hid ((h4.out.drewN q).on hA hK)
  clear hA hK h4
  go_wp2_with fail
  refine (alloc_yes h6.out.1 Anc.w4 (HS.alloc_known Anc.f6)).mono ?_
  rintro e w7 ⟨rfl, hA, hK, -⟩
  have h7 := Lib.hid (h6.out.on hA hK)
  clear hA hK h6
  go_wp2_with fail
  refine (alloc_yes h7.out.1 Anc.w5 (HS.alloc_known Anc.f7)).mono ?_
  rintro e w8 ⟨rfl, hA, hK, -⟩
  have h8 := Lib.hid (h7.out.on hA hK)
  clear hA hK h7
  go_wp2_with fail
  refine (new_no w8 127 (by omega)).mono ?_
  rintro e w9 ⟨rfl, rfl⟩
  go_wp2
  go_ret
  exact ⟨rfl, h8.out.2.1⟩
end Go.Proofs.Ytchoioajalpfoaa
