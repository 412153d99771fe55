/-
  The walks of space: Make.
-/
import Derived.Test.YtnbiofcfphpikaaV5
import Derived.Test.YtnbiofcfphpikaaGone
namespace Go.Proofs.Ytnbiofcfphpikaa
open Go.RowKit

/-- A block with its header. -/
def HS.headed (H : HS) (a : Nat) (k s m : Int) : HS := { H with words := setf H.words a (hdr k s m) }

set_option maxHeartbeats 1000000 in
theorem make_bad {w wr : World} {B : HB} {sp : Nat} {hv : Value} {H : HS} {held : List Int} {n : Nat} (_h : SpaceAt w wr B sp hv H held n) (k s m : Int) (hb : ¬ hdrOk k s m) :
    Calls Try.prog 22 #[.pointer (some ⟨sp, 0, none⟩), .int .i64 k, .int .i64 s, .int .i64 m] wr fun e w' => e = .returned (.tuple #[.int .i64 0, .bool false]) ∧ wr = w' := by
  have HH := Lib.hid (header_no wr k s m hb)
  clear _h hb
  go_enter Try.func22, Try.ntmps22
  go_wp2_with fail
  refine HH.out.mono ?_
  rintro e w1 ⟨rfl, rfl⟩
  go_wp2
  go_ret2
  exact ⟨rfl, rfl⟩

set_option maxHeartbeats 1000000 in
theorem make_yes {w wr : World} {B : HB} {sp : Nat} {hv : Value} {H H1 : HS} {held : List Int} {n a : Nat} (h : SpaceAt w wr B sp hv H held n) (k s m : Int) (hb : hdrOk k s m) (ha : H.alloc (s + 1) = some (a, H1)) :
    Calls Try.prog 22 #[.pointer (some ⟨sp, 0, none⟩), .int .i64 k, .int .i64 s, .int .i64 m] wr fun e w' => e = .returned (.tuple #[.int .i64 a, .bool true]) ∧ Hid (SpaceAt w w' B sp hv (H1.headed a k s m) held n ∧ Keeps (SpF B sp hv) wr w') := by
  have HH := Lib.hid (header_yes wr k s m hb)
  have hp := hdr_parts hb
  have hne : (hdr k s m == 0) = false := beq_eq_false_iff_ne.2 hp.2.2.2.2
  have hs1 : s < 16448 := hb.2.2.2.1
  have hs0 : 0 ≤ s := hb.2.2.1
  have hadd := (h.wf.alloc_adds ha).2.2
  have HA := Lib.hid (alloc_yes h.heap h.wf ha)
  have hc1 := h.c1
  have H0 := Lib.hid h
  clear hp hb
  go_enter Try.func22, Try.ntmps22
  go_wp2_with fail
  refine HH.out.mono ?_
  rintro e w1 ⟨rfl, rfl⟩
  go_wp2_with fail
  refine HA.out.mono ?_
  rintro e w2 ⟨rfl, hA2, hK2, -⟩
  have h2 := H0.out.turned hA2 hadd.wf hK2
  have hr2 : H1.roomI (a : Int) ≠ 0 := by rw [HS.roomI_cast, hadd.is]; exact hadd.pos
  have HST : Hid (∀ q, Calls Try.prog 56 #[.pointer (some ⟨B.h, 0, none⟩), .int .i64 (a : Nat), .int .i64 0, .int .i64 (hdr k s m)] (w2.drewN q) fun e w' => e = .returned (.bool true) ∧ HeapAt w' B (H1.headed a k s m) ∧ Keeps B.wr w2 w') := by
    intro q
    have := store_yes (hA2.drewN q) hadd.wf (a : Int) 0 (hdr k s m) (by omega) (by omega)
    refine this.mono ?_
    rintro e w' ⟨he, hA, hK, -⟩
    refine ⟨he, ?_, ?_⟩
    · have e : ((a : Int) + 0).toNat = a := by omega
      rw [e] at hA
      exact hA
    · exact ((Keeps.refl B.wr w2).drewN q).trans hK (fun _ _ h => h)
  have hc1' := h2.c1
  have HK2 := Lib.hid hK2
  have H2 := Lib.hid h2
  clear hA2 hK2 h2 hr2
  generalize hdr k s m = hd at *
  go_wp2_with fail
  refine (HST.out 0).mono ?_
  rintro e w3 ⟨rfl, hA3, hK3⟩
  go_wp2
  go_ret2
  exact ⟨rfl, H2.out.turned hA3 (hadd.wf.withWords _) hK3, (HK2.out.mono (fun k _ h => .inl h)).trans hK3 (fun k _ h => .inl h)⟩

theorem store_head {w2 : World} {B : HB} {H1 : HS} (hA2 : HeapAt w2 B H1) (hW : H1.Wf) (a : Nat) (hr2 : H1.room a ≠ 0) (k s m : Int) (q : Nat) :
    Calls Try.prog 56 #[.pointer (some ⟨B.h, 0, none⟩), .int .i64 (a : Nat), .int .i64 0, .int .i64 (hdr k s m)] (w2.drewN q) fun e w' => e = .returned (.bool true) ∧ HeapAt w' B (H1.headed a k s m) ∧ Keeps B.wr w2 w' := by
  have := store_yes (hA2.drewN q) hW (a : Int) 0 (hdr k s m) (by omega) (by rw [HS.roomI_cast]; omega)
  refine this.mono ?_
  rintro e w' ⟨he, hA, hK, -⟩
  refine ⟨he, ?_, ((Keeps.refl B.wr w2).drewN q).trans hK (fun _ _ h => h)⟩
  have e : ((a : Int) + 0).toNat = a := by omega
  rw [e] at hA
  exact hA

set_option maxHeartbeats 1000000 in
theorem make_gc {w wr : World} {B : HB} {sp : Nat} {hv : Value} {H : HS} {held : List Int} {n : Nat} (h : SpaceAt w wr B sp hv H held n) (k s m : Int) (hb : hdrOk k s m) (ha : H.alloc (s + 1) = none) (hl : held.length ≤ 10000000) (hn : n ≤ 1000000000) :
    Calls Try.prog 22 #[.pointer (some ⟨sp, 0, none⟩), .int .i64 k, .int .i64 s, .int .i64 m] wr fun e w' => ∃ H1 c, Hid (H.Swept H1 held c) ∧
      ((H1.alloc (s + 1) = none ∧ e = .returned (.tuple #[.int .i64 0, .bool false]) ∧ Hid (SpaceAt w w' B sp hv H1 held (n + 1) ∧ Keeps (SpF B sp hv) wr w')) ∨
       ∃ a H2, H1.alloc (s + 1) = some (a, H2) ∧ e = .returned (.tuple #[.int .i64 a, .bool true]) ∧ Hid (SpaceAt w w' B sp hv (H2.headed a k s m) held (n + 1) ∧ Keeps (SpF B sp hv) wr w')) := by
  have HH := Lib.hid (header_yes wr k s m hb)
  have hp := hdr_parts hb
  have hne : (hdr k s m == 0) = false := beq_eq_false_iff_ne.2 hp.2.2.2.2
  have hs1 : s < 16448 := hb.2.2.2.1
  have hs0 : 0 ≤ s := hb.2.2.1
  have HA := Lib.hid (alloc_no h.heap h.wf ha)
  have hc1 := h.c1
  have H0 := Lib.hid h
  have HCO := fun q => Lib.hid (space_collect (h.drewN q) hl hn)
  clear hp hb
  go_enter Try.func22, Try.ntmps22
  go_wp2_with fail
  refine HH.out.mono ?_
  rintro e w1 ⟨rfl, rfl⟩
  go_wp2_with fail
  refine HA.out.mono ?_
  rintro e w2 ⟨rfl, q, rfl⟩
  go_wp2_with fail
  refine (HCO q).out.mono ?_
  rintro e w3 ⟨c, rfl, H1, h3⟩
  have hc3 := h3.out.1.c1
  have HSW := Lib.hid h3.out.2.1
  cases ha2 : H1.alloc (s + 1) with
  | none =>
    have HA2 := Lib.hid (alloc_no h3.out.1.heap h3.out.1.wf ha2)
    go_wp2_with fail
    refine HA2.out.mono ?_
    rintro e w4 ⟨rfl, q4, rfl⟩
    go_wp2
    go_ret2
    exact ⟨H1, c, HSW, .inl ⟨ha2, rfl, h3.out.1.drewN q4, (((Keeps.refl _ wr).drewN q).trans h3.out.2.2 (fun _ _ h => h)).drewN q4⟩⟩
  | some r =>
    obtain ⟨a, H2⟩ := r
    have HA2 := Lib.hid (alloc_yes h3.out.1.heap h3.out.1.wf ha2)
    have hadd := (h3.out.1.wf.alloc_adds ha2).2.2
    go_wp2_with fail
    refine HA2.out.mono ?_
    rintro e w4 ⟨rfl, hA4, hK4, -⟩
    have HST := fun q => Lib.hid (store_head hA4 hadd.wf a (by rw [hadd.is]; exact hadd.pos) k s m q)
    have h4 := h3.out.1.turned hA4 hadd.wf hK4
    have hc4 := h4.c1
    have HK4 := Lib.hid hK4
    have H4 := Lib.hid h4
    clear hA4 hK4 h4
    generalize hdr k s m = hd at *
    go_wp2_with fail
    refine (HST 0).out.mono ?_
    rintro e w5 ⟨rfl, hA5, hK5⟩
    go_wp2
    go_ret2
    refine ⟨H1, c, HSW, .inr ⟨a, H2, ha2, rfl, H4.out.turned hA5 (hadd.wf.withWords _) hK5, ?_⟩⟩
    exact ((((Keeps.refl _ wr).drewN q).trans h3.out.2.2 (fun _ _ h => h)).trans HK4.out (fun k _ h => .inl h)).trans hK5 (fun k _ h => .inl h)
end Go.Proofs.Ytnbiofcfphpikaa
