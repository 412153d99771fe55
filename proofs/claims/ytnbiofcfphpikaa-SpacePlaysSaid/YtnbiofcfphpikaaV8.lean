/-
  The walks of space: Head, Get, Set, Told.
-/
import Derived.Test.YtnbiofcfphpikaaV7
namespace Go.Proofs.Ytnbiofcfphpikaa
open Go.RowKit

/-- The header's word of an address: 0 where there is no block. -/
def HS.headW (H : HS) (x : Int) : Int := if H.roomI x = 0 then 0 else H.words x.toNat
def hkOf (h : Int) : Int := if isHdr h = true then hk h else 0
def hsOf (h : Int) : Int := if isHdr h = true then hs h else 0
def hmOf (h : Int) : Int := if isHdr h = true then hm h else 0

theorem open_calls (w : World) (h : Int) :
    Calls Try.prog 62 #[.int .i64 h] w fun e w' => e = .returned (.tuple #[.int .i64 (hkOf h), .int .i64 (hsOf h), .int .i64 (hmOf h), .bool (isHdr h)]) ∧ w = w' := by
  unfold hkOf hsOf hmOf
  cases hh : isHdr h with
  | true => simpa using open_yes w h hh
  | false => simpa using open_no w h hh
theorem isHdr_zero : isHdr 0 = false := by unfold isHdr; simp

theorem load_head {w : World} {B : HB} {H : HS} (hA : HeapAt w B H) (hW : H.Wf) (x : Int) :
    Calls Try.prog 61 #[.pointer (some ⟨B.h, 0, none⟩), .int .i64 x, .int .i64 0] w fun e w' => ∃ t, RetPair (H.headW x) t e ∧ ∃ q, w' = w.drewN q := by
  unfold HS.headW
  by_cases h : H.roomI x = 0
  · rw [if_pos h]
    exact (load_no hA hW x 0 (.inr (by omega))).mono fun _ _ h => ⟨false, h⟩
  · rw [if_neg h]
    have := load_yes hA hW x 0 (by omega) (by omega)
    rw [Int.add_zero] at this
    exact this.mono fun _ _ h => ⟨true, h⟩

set_option maxHeartbeats 1000000 in
theorem head_calls {w wr : World} {B : HB} {sp : Nat} {hv : Value} {H : HS} {held : List Int} {n : Nat} (h : SpaceAt w wr B sp hv H held n) (x : Int) :
    Calls Try.prog 27 #[.pointer (some ⟨sp, 0, none⟩), .int .i64 x] wr fun e w' => e = .returned (.tuple #[.int .i64 (hkOf (H.headW x)), .int .i64 (hsOf (H.headW x)), .int .i64 (hmOf (H.headW x))]) ∧ ∃ q, w' = wr.drewN q := by
  have hc1 := h.c1
  have HL := Lib.hid (load_head h.heap h.wf x)
  have HO := fun w => Lib.hid (open_calls w (H.headW x))
  generalize H.headW x = hw at *
  clear h
  go_enter Try.func27, Try.ntmps27
  go_wp2_with fail
  refine HL.out.mono ?_
  rintro e w1 ⟨t, h1, q, rfl⟩
  have h1' := retPair_out h1
  clear h1
  subst h1'
  go_wp2_with fail
  refine (HO _).out.mono ?_
  rintro e w2 ⟨rfl, rfl⟩
  go_wp2
  go_ret3
  exact ⟨rfl, q, rfl⟩

/-- The word that Get reads. -/
def HS.getW (H : HS) (x k : Int) : Int := if k < 0 ∨ hsOf (H.headW x) ≤ k then 0 else if (H.roomI x : Int) ≤ k + 1 then 0 else H.words (x + (k + 1)).toNat
/-- May it be written? -/
def HS.canSet (H : HS) (x k : Int) : Bool := decide (0 ≤ k) && decide (k < hsOf (H.headW x)) && decide (k + 1 < (H.roomI x : Int))
theorem hsOf_range (h : Int) : 0 ≤ hsOf h ∧ hsOf h < 16448 := by
  unfold hsOf
  split
  · rename_i hh
    have := (isHdr_ok hh).1
    exact ⟨this.2.2.1, this.2.2.2.1⟩
  · omega

set_option maxHeartbeats 1000000 in
theorem get_calls {w wr : World} {B : HB} {sp : Nat} {hv : Value} {H : HS} {held : List Int} {n : Nat} (h : SpaceAt w wr B sp hv H held n) (x k : Int) :
    Calls Try.prog 29 #[.pointer (some ⟨sp, 0, none⟩), .int .i64 x, .int .i64 k] wr fun e w' => e = .returned (.int .i64 (H.getW x k)) ∧ ∃ q, w' = wr.drewN q := by
  have hc1 := fun q => ((h.drewN q).c1 : (wr.drewN q).cell? _ = _)
  have HH := Lib.hid (head_calls h x)
  have hrg := hsOf_range (H.headW x)
  have HG : Hid (H.getW x k = if k < 0 ∨ hsOf (H.headW x) ≤ k then 0 else if (H.roomI x : Int) ≤ k + 1 then 0 else H.words (x + (k + 1)).toNat) := rfl
  have HA := Lib.hid h.heap
  have HW := Lib.hid h.wf
  clear h
  generalize H.getW x k = g at *
  generalize hkOf (H.headW x) = zk at *
  generalize hsOf (H.headW x) = zs at *
  generalize hmOf (H.headW x) = zm at *
  by_cases h0 : k < 0
  · have d0 : decide (k < 0) = true := decide_eq_true h0
    have eg := HG.out
    rw [if_pos (.inl h0)] at eg
    subst eg
    clear HG
    go_enter Try.func29, Try.ntmps29
    go_wp2_with fail
    refine HH.out.mono ?_
    rintro e w1 ⟨rfl, q, rfl⟩
    go_wp2
    go_ret
    exact ⟨rfl, q, rfl⟩
  have d0 : decide (k < 0) = false := decide_eq_false h0
  by_cases h1 : zs ≤ k
  · have d1 : decide (zs ≤ k) = true := decide_eq_true h1
    have eg := HG.out
    rw [if_pos (.inr h1)] at eg
    subst eg
    clear HG
    go_enter Try.func29, Try.ntmps29
    go_wp2_with fail
    refine HH.out.mono ?_
    rintro e w1 ⟨rfl, q, rfl⟩
    go_wp2
    go_ret
    exact ⟨rfl, q, rfl⟩
  have d1 : decide (zs ≤ k) = false := decide_eq_false h1
  have eg := HG.out
  rw [if_neg (by omega)] at eg
  have hk0 : 0 ≤ k := by omega
  have hk1 : k ≤ 16448 := by omega
  have HL : Hid (∀ q, Calls Try.prog 61 #[.pointer (some ⟨B.h, 0, none⟩), .int .i64 x, .int .i64 (k + 1)] (wr.drewN q) fun e w' => ∃ t, RetPair g t e ∧ ∃ q', w' = (wr.drewN q).drewN q') := by
    intro q
    have hA := HA.out.keep ((Keeps.refl (fun _ => False) wr).drewN q) (fun _ _ h => h)
    by_cases hr : (H.roomI x : Int) ≤ k + 1
    · rw [if_pos hr] at eg
      rw [eg]
      exact (load_no hA HW.out x (k + 1) (.inr hr)).mono fun _ _ h => ⟨false, h⟩
    · rw [if_neg hr] at eg
      rw [eg]
      exact (load_yes hA HW.out x (k + 1) (by omega) (by omega)).mono fun _ _ h => ⟨true, h⟩
  clear HG eg
  go_enter Try.func29, Try.ntmps29
  go_wp2_with fail
  refine HH.out.mono ?_
  rintro e w1 ⟨rfl, q, rfl⟩
  go_wp2_with fail
  refine (HL.out q).mono ?_
  rintro e w2 ⟨t, h2, q2, rfl⟩
  have h2' := retPair_out h2
  clear h2
  subst h2'
  go_wp2
  go_ret
  exact ⟨rfl, q + q2, rfl⟩

set_option maxHeartbeats 1000000 in
theorem set_no {w wr : World} {B : HB} {sp : Nat} {hv : Value} {H : HS} {held : List Int} {n : Nat} (h : SpaceAt w wr B sp hv H held n) (x k v : Int) (hc : H.canSet x k = false) :
    Calls Try.prog 28 #[.pointer (some ⟨sp, 0, none⟩), .int .i64 x, .int .i64 k, .int .i64 v] wr fun e w' => e = .returned (.bool false) ∧ ∃ q, w' = wr.drewN q := by
  have hc1 := fun q => ((h.drewN q).c1 : (wr.drewN q).cell? _ = _)
  have HH := Lib.hid (head_calls h x)
  have hrg := hsOf_range (H.headW x)
  unfold HS.canSet at hc
  have HA := Lib.hid h.heap
  have HW := Lib.hid h.wf
  clear h
  generalize hkOf (H.headW x) = zk at *
  generalize hsOf (H.headW x) = zs at *
  generalize hmOf (H.headW x) = zm at *
  by_cases h0 : k < 0
  · have d0 : decide (k < 0) = true := decide_eq_true h0
    clear hc
    go_enter Try.func28, Try.ntmps28
    go_wp2_with fail
    refine HH.out.mono ?_
    rintro e w1 ⟨rfl, q, rfl⟩
    go_wp2
    go_ret
    exact ⟨rfl, q, rfl⟩
  have d0 : decide (k < 0) = false := decide_eq_false h0
  by_cases h1 : zs ≤ k
  · have d1 : decide (zs ≤ k) = true := decide_eq_true h1
    clear hc
    go_enter Try.func28, Try.ntmps28
    go_wp2_with fail
    refine HH.out.mono ?_
    rintro e w1 ⟨rfl, q, rfl⟩
    go_wp2
    go_ret
    exact ⟨rfl, q, rfl⟩
  have d1 : decide (zs ≤ k) = false := decide_eq_false h1
  have hk0 : 0 ≤ k := by omega
  have hk1 : k ≤ 16448 := by omega
  have hr : (H.roomI x : Int) ≤ k + 1 := by
    rw [decide_eq_true hk0, decide_eq_true (show k < zs by omega)] at hc
    simp at hc
    omega
  have HL : Hid (∀ q, Calls Try.prog 56 #[.pointer (some ⟨B.h, 0, none⟩), .int .i64 x, .int .i64 (k + 1), .int .i64 v] (wr.drewN q) fun e w' => e = .returned (.bool false) ∧ ∃ q', w' = (wr.drewN q).drewN q') := by
    intro q
    exact store_no (HA.out.keep ((Keeps.refl (fun _ => False) wr).drewN q) (fun _ _ h => h)) HW.out x (k + 1) v (.inr hr)
  clear hc hr
  go_enter Try.func28, Try.ntmps28
  go_wp2_with fail
  refine HH.out.mono ?_
  rintro e w1 ⟨rfl, q, rfl⟩
  go_wp2_with fail
  refine (HL.out q).mono ?_
  rintro e w2 ⟨rfl, q2, rfl⟩
  go_wp2
  go_ret
  exact ⟨rfl, q + q2, rfl⟩

set_option maxHeartbeats 1000000 in
theorem set_yes {w wr : World} {B : HB} {sp : Nat} {hv : Value} {H : HS} {held : List Int} {n : Nat} (h : SpaceAt w wr B sp hv H held n) (x k v : Int) (hc : H.canSet x k = true) :
    Calls Try.prog 28 #[.pointer (some ⟨sp, 0, none⟩), .int .i64 x, .int .i64 k, .int .i64 v] wr fun e w' => e = .returned (.bool true) ∧ Hid (SpaceAt w w' B sp hv { H with words := setf H.words (x + (k + 1)).toNat v } held n ∧ Keeps (SpF B sp hv) wr w') := by
  have hc1 := fun q => ((h.drewN q).c1 : (wr.drewN q).cell? _ = _)
  have HH := Lib.hid (head_calls h x)
  have hrg := hsOf_range (H.headW x)
  unfold HS.canSet at hc
  simp only [Bool.and_eq_true, decide_eq_true_eq] at hc
  obtain ⟨⟨hk0, hks⟩, hr⟩ := hc
  have H0 := Lib.hid h
  have HL : Hid (∀ q, Calls Try.prog 56 #[.pointer (some ⟨B.h, 0, none⟩), .int .i64 x, .int .i64 (k + 1), .int .i64 v] (wr.drewN q) fun e w' => e = .returned (.bool true) ∧ HeapAt w' B { H with words := setf H.words (x + (k + 1)).toNat v } ∧ Keeps B.wr wr w') := by
    intro q
    refine (store_yes (h.drewN q).heap h.wf x (k + 1) v (by omega) hr).mono ?_
    rintro e w' ⟨he, hA, hK, -⟩
    exact ⟨he, hA, ((Keeps.refl B.wr wr).drewN q).trans hK (fun _ _ h => h)⟩
  clear h hr
  generalize hkOf (H.headW x) = zk at *
  generalize hsOf (H.headW x) = zs at *
  generalize hmOf (H.headW x) = zm at *
  have d0 : decide (k < 0) = false := decide_eq_false (by omega)
  have d1 : decide (zs ≤ k) = false := decide_eq_false (by omega)
  have hk1 : k ≤ 16448 := by omega
  go_enter Try.func28, Try.ntmps28
  go_wp2_with fail
  refine HH.out.mono ?_
  rintro e w1 ⟨rfl, q, rfl⟩
  go_wp2_with fail
  refine (HL.out q).mono ?_
  rintro e w2 ⟨rfl, hA, hK⟩
  go_wp2
  go_ret
  exact ⟨rfl, H0.out.turned hA (H0.out.wf.withWords _) hK, hK.mono (fun k _ h => .inl h)⟩
end Go.Proofs.Ytnbiofcfphpikaa
