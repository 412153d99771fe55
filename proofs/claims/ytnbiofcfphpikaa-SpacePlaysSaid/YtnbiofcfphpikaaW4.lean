/-
  The walk of Free.
-/
import Derived.Test.YtnbiofcfphpikaaW3
namespace Go.Proofs.Ytnbiofcfphpikaa
open Go.RowKit

set_option maxHeartbeats 400000 in
theorem free_no {w : World} {B : HB} {H : HS} (hA : HeapAt w B H) (hW : H.Wf) (x : Int) (h : H.roomI x = 0) :
    Calls Try.prog 77 #[.pointer (some ⟨B.h, 0, none⟩), .int .i64 x] w fun e w' => e = .returned (.bool false) ∧ ∃ q, w' = w.drewN q := by
  have hR := room_calls hA hW x
  rw [h] at hR
  clear h
  go_enter Try.func77, Try.ntmps77
  go_wp2_with (go_at_call 75; refine hR.mono ?_; rintro e w' ⟨rfl, q, rfl⟩)
  go_ret
  exact ⟨rfl, _, rfl⟩

set_option maxHeartbeats 400000 in
theorem free_long {w : World} {B : HB} {H : HS} (hA : HeapAt w B H) (hW : H.Wf) (s : Nat) (hs : s < H.n) (hc : H.cls s = -1) :
    Calls Try.prog 77 #[.pointer (some ⟨B.h, 0, none⟩), .int .i64 (64 * s : Nat)] w fun e w' => e = .returned (.bool true) ∧
      HeapAt w' B { H with cls := setr H.cls s (H.runs s) 0 } ∧ Keeps B.wr w w' ∧ w'.heap.size = w.heap.size := by
  have hR := room_calls hA hW (64 * s : Nat)
  have hg := hW.lg s hs hc
  have hnb := hW.nb
  have hroom : H.roomI ((64 * s : Nat) : Int) = 64 * H.runs s := by
    unfold HS.roomI
    rw [if_neg (by omega), Int.toNat_natCast, HS.room_long hs hc]
  rw [hroom] at hR
  have hcell := hA.cl.cell hs
  rw [hc] at hcell
  have c1 := hA.c1
  have HA : Hid (∀ q, HeapAt (w.drewN q) B { H with cls := setr H.cls s 0 0 }) := fun q => (hA.drewN q).congr rfl (fun _ _ => rfl) (fun i _ => setr_out _ _ (by omega)) (fun _ _ => rfl) (fun _ _ => rfl)
  clear hroom hc hA hW
  obtain ⟨h1, h2, h3, -⟩ := hg
  generalize hm : H.runs s = m at *
  have hz : ((64 * m : Nat) : Int) ≠ 0 := by omega
  have hz' : (((64 * m : Nat) : Int) == 0) = false := beq_eq_false_iff_ne.2 hz
  have hdiv : ((64 * m : Nat) : Int) / 64 = (m : Int) := by omega
  have hdiv2 : ((64 * s : Nat) : Int) / 64 = (s : Int) := by omega
  clear hm hz
  go_enter Try.func77, Try.ntmps77
  go_wp2_with (go_at_call 75; refine hR.mono ?_; rintro e w' ⟨rfl, q, rfl⟩)
  have HA' := Lib.hid (HA.out q)
  clear HA c1 hcell hR
  go_loopw [7, 25] (fun _ i wr => ∃ k : Nat, k ≤ m ∧ i = .int .i64 k ∧ HeapAt wr B { H with cls := setr H.cls s k 0 } ∧ Keeps B.wr w wr ∧ wr.heap.size = w.heap.size) (fun _ i _ => m - (intOf i).toNat)
  case atStart => exact ⟨0, Nat.zero_le _, rfl, HA'.out, (Keeps.refl _ _).drewN _, rfl⟩
  case round =>
    obtain ⟨k, hk, rfl, hA, hK, hsz⟩ := hrel
    by_cases hlt : k < m
    · have c1 := hA.c1
      have hcell := hA.cl.cell (i := s + k) (show s + k < H.n by omega)
      have hfr := hA.cl.free (s + k)
      have HA := Lib.hid (hA.setCls (i := s + k) (show s + k < H.n by omega) 0)
      have HK := Lib.hid (hK.setCell (p := ⟨B.c, s + k, none⟩) (fun _ => .inr (.inl rfl)) (.int .i64 0))
      have HSz := Lib.hid hsz
      clear hA hK hsz
      have hin : ((s : Int) + (k : Int)) < (H.n : Int) := by omega
      go_wp2
      go_roundw
      case rel =>
        refine ⟨k + 1, by omega, by go_num, ?_, HK.out, by rw [World.size_setCell]; exact HSz.out⟩
        rw [setr_snoc]; exact HA.out
      case measure => simp [intOf]; omega
    · obtain rfl : k = m := by omega
      have HA := Lib.hid hA
      have HK := Lib.hid hK
      have HSz := Lib.hid hsz
      clear hA hK hsz
      go_wp2
      go_ret
      exact ⟨rfl, HA.out, HK.out, HSz.out⟩

set_option maxHeartbeats 800000 in
theorem free_class {w : World} {B : HB} {H : HS} (hA : HeapAt w B H) (hW : H.Wf) (s k c : Nat) (hs : s < H.n) (hc : H.cls s = (c : Int)) (hcl : HS.Cl (c : Int)) (hk : k < 64 / c) (hb : (H.used s).testBit k = true) :
    Calls Try.prog 77 #[.pointer (some ⟨B.h, 0, none⟩), .int .i64 (64 * s + k * c : Nat)] w fun e w' => e = .returned (.bool true) ∧
      HeapAt w' B (H.freeAt (64 * s + k * c)) ∧ Keeps B.wr w w' ∧ w'.heap.size = w.heap.size := by
  have hp := HS.cl_pos hcl
  have hd := HS.cl_div hcl hk
  have ha := HS.cl_at (s := s) hcl hk
  have hnb := hW.nb
  have hR := room_calls hA hW (64 * s + k * c : Nat)
  have hroom : H.roomI ((64 * s + k * c : Nat) : Int) = c := by
    unfold HS.roomI
    rw [if_neg (by omega), Int.toNat_natCast, HS.room_class hs hc hcl hk, if_pos hb]
  rw [hroom] at hR
  have hf : H.freeAt (64 * s + k * c) = if H.used s ^^^ 2 ^ k = 0 then { H with used := setf H.used s 0, cls := setf H.cls s 0 } else { H with used := setf H.used s (H.used s ^^^ 2 ^ k) } := by
    unfold HS.freeAt
    rw [ha.1, hc, Int.toNat_natCast, ha.2.2, if_neg (by omega)]
  rw [hf]
  have hu64 := used_lt hW hs
  have hx64 : H.used s ^^^ 2 ^ k < 18446744073709551616 := by
    have h64 : (2 : Nat) ^ 64 = 18446744073709551616 := by decide
    rw [← h64]
    exact Nat.xor_lt_two_pow (by omega) (Nat.pow_lt_pow_right (by omega) (by omega))
  have hbc := bit_clear hu64 (show k < 64 by omega) hb
  have hcell := hA.cl.cell hs
  rw [hc] at hcell
  have hucell := hA.us.cell hs
  have hufree := hA.us.free s
  have hcfree := hA.cl.free s
  have c1 := hA.c1
  have c2 := hA.c2
  have hcu := hA.cu
  have huc := hA.cu.symm
  have hhu := hA.hu
  have hhc := hA.hc
  have HAU := Lib.hid (fun q => (hA.drewN q).setUsed hs (H.used s ^^^ 2 ^ k))
  have HKU := Lib.hid (fun q => ((Keeps.refl B.wr w).drewN q).setCell (p := ⟨B.u, s, none⟩) (fun _ => .inr (.inr (.inl rfl))) (.int .u64 (H.used s ^^^ 2 ^ k : Nat)))
  have hdivI : ((64 * s + k * c : Nat) : Int) / 64 = (s : Int) := by omega
  have hkk : (((64 * s + k * c : Nat) : Int).tmod 64).tdiv (c : Int) = (k : Int) := by
    rw [Int.tmod_eq_emod_of_nonneg (by omega), Int.tdiv_eq_ediv_of_nonneg (by omega)]
    have := ha.2.2
    exact_mod_cast this
  have hkk' : ((64 * s + k * c : Nat) : Int) % 64 / (c : Int) = (k : Int) := by
    have := ha.2.2
    exact_mod_cast this
  have hz' : ((c : Int) == 0) = false := beq_eq_false_iff_ne.2 (by omega)
  have hz1 : ((c : Int) == -1) = false := beq_eq_false_iff_ne.2 (by omega)
  have hk64 : (k : Int) < 64 := by omega
  generalize hX : 64 * s + k * c = X at *
  have HX := Lib.hid hX
  have HBt := Lib.hid hb
  have HW := Lib.hid hW
  clear hX hb hW hroom hf ha hd hu64
  have hX0 : (X : Int) ≤ 2097152 := by have := HX.out; omega
  by_cases hz : H.used s ^^^ 2 ^ k = 0
  · rw [if_pos hz]
    have HC := Lib.hid (fun q => (HAU.out q).setCls (i := s) hs 0)
    have HK := Lib.hid (fun q => (HKU.out q).setCell (p := ⟨B.c, s, none⟩) (fun _ => .inr (.inl rfl)) (.int .i64 0))
    rw [hz] at hbc HC HK
    clear hz HAU HKU hx64
    go_enter Try.func77, Try.ntmps77
    go_wp2_with (go_at_call 75; refine hR.mono ?_; rintro e w' ⟨rfl, q, rfl⟩)
    go_region
    all_goals go_wp2
    all_goals go_ret
    all_goals exact ⟨rfl, HC.out _, HK.out _, by simp⟩
  · rw [if_neg hz]
    have hzb : (((H.used s ^^^ 2 ^ k : Nat) : Int) == 0) = false := beq_eq_false_iff_ne.2 (by omega)
    generalize hU : H.used s ^^^ 2 ^ k = U at *
    clear hU hz
    go_enter Try.func77, Try.ntmps77
    go_wp2_with (go_at_call 75; refine hR.mono ?_; rintro e w' ⟨rfl, q, rfl⟩)
    go_region
    all_goals go_wp2
    all_goals go_ret
    all_goals exact ⟨rfl, HAU.out _, HKU.out _, by simp⟩

/-- Free. -/
theorem free_calls {w : World} {B : HB} {H : HS} (hA : HeapAt w B H) (hW : H.Wf) (x : Int) (h : H.roomI x ≠ 0) :
    Calls Try.prog 77 #[.pointer (some ⟨B.h, 0, none⟩), .int .i64 x] w fun e w' => e = .returned (.bool true) ∧
      HeapAt w' B (H.freeAt x.toNat) ∧ Keeps B.wr w w' ∧ w'.heap.size = w.heap.size := by
  have hx : 0 ≤ x := by
    apply Classical.byContradiction
    intro hn
    unfold HS.roomI at h
    rw [if_pos (by omega)] at h
    exact h rfl
  obtain ⟨a, rfl⟩ := Int.eq_ofNat_of_zero_le hx
  rw [Int.toNat_natCast]
  unfold HS.roomI at h
  rw [if_neg (by omega), Int.toNat_natCast] at h
  rcases hW.cases h with ⟨s, hs, h1, hc, ea, hr⟩ | ⟨s, k, c, hs, h1, hc, hcl, hk, hb, ea, hr⟩
  · subst ea
    have e : H.freeAt (64 * s) = { H with cls := setr H.cls s (H.runs s) 0 } := by
      unfold HS.freeAt
      rw [show 64 * s / 64 = s by omega, if_pos hc]
    rw [e]
    exact free_long hA hW s hs hc
  · subst ea
    exact free_class hA hW s k c hs hc hcl hk hb
end Go.Proofs.Ytnbiofcfphpikaa
