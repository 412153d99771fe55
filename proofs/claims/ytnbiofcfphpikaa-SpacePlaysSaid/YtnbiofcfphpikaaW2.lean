/-
  The walks of Load, Store, full, clear, place.
-/
import Derived.Test.YtnbiofcfphpikaaW1
namespace Go.Proofs.Ytnbiofcfphpikaa
open Go.RowKit

theorem roomI_le {H : HS} (hW : H.Wf) (x : Int) : H.roomI x ≤ 1048576 ∧ (0 < H.roomI x → 64 ≤ x ∧ x + H.roomI x ≤ 64 * H.n ∧ x ≤ 1048576) := by
  unfold HS.roomI
  have hnb := hW.nb
  split
  · omega
  · by_cases h : H.room x.toNat = 0
    · omega
    · have := hW.inside h
      omega

def RetPair (v : Int) (t : Bool) (e : Ending) : Prop := e = .returned (.tuple #[.int .i64 v, .bool t])

set_option maxHeartbeats 400000 in
theorem load_no {w : World} {B : HB} {H : HS} (hA : HeapAt w B H) (hW : H.Wf) (x k : Int) (h : k < 0 ∨ (H.roomI x : Int) ≤ k) :
    Calls Try.prog 61 #[.pointer (some ⟨B.h, 0, none⟩), .int .i64 x, .int .i64 k] w fun e w' => RetPair 0 false e ∧ ∃ q, w' = w.drewN q := by
  by_cases hk : k < 0
  · go_enter Try.func61, Try.ntmps61
    go_wp2
    go_ret2
    exact ⟨rfl, 0, rfl⟩
  · have h' : (H.roomI x : Int) ≤ k := by omega
    have hR := room_calls hA hW x
    generalize H.roomI x = r at *
    clear h
    go_enter Try.func61, Try.ntmps61
    go_wp2_with (go_at_call 75; refine hR.mono ?_; rintro e w' ⟨rfl, q, rfl⟩)
    go_ret2
    exact ⟨rfl, _, rfl⟩

set_option maxHeartbeats 400000 in
theorem load_yes {w : World} {B : HB} {H : HS} (hA : HeapAt w B H) (hW : H.Wf) (x k : Int) (h0 : 0 ≤ k) (h : k < (H.roomI x : Int)) :
    Calls Try.prog 61 #[.pointer (some ⟨B.h, 0, none⟩), .int .i64 x, .int .i64 k] w fun e w' => RetPair (H.words (x + k).toNat) true e ∧ ∃ q, w' = w.drewN q := by
  have hR := room_calls hA hW x
  have hin := (roomI_le hW x).2 (by omega)
  have hle := (roomI_le hW x).1
  have hnb := hW.nb
  have c0 := hA.c0
  obtain ⟨X, rfl⟩ := Int.eq_ofNat_of_zero_le (show 0 ≤ x by omega)
  obtain ⟨K, rfl⟩ := Int.eq_ofNat_of_zero_le h0
  have hcell := hA.wd.cell (i := X + K) (by omega)
  have hlt : ((X : Int) + K) < ((64 * H.n : Nat) : Int) := by omega
  rw [show ((X : Int) + (K : Int)).toNat = X + K by omega]
  generalize H.roomI X = r at *
  generalize 64 * H.n = N at *
  have hb1 : (X : Int) + K ≤ 1048576 * 2 := by omega
  clear hin
  go_enter Try.func61, Try.ntmps61
  go_wp2_with (go_at_call 75; refine hR.mono ?_; rintro e w' ⟨rfl, q, rfl⟩)
  go_ret2
  exact ⟨rfl, _, rfl⟩

set_option maxHeartbeats 400000 in
theorem store_no {w : World} {B : HB} {H : HS} (hA : HeapAt w B H) (hW : H.Wf) (x k v : Int) (h : k < 0 ∨ (H.roomI x : Int) ≤ k) :
    Calls Try.prog 56 #[.pointer (some ⟨B.h, 0, none⟩), .int .i64 x, .int .i64 k, .int .i64 v] w fun e w' => e = .returned (.bool false) ∧ ∃ q, w' = w.drewN q := by
  by_cases hk : k < 0
  · go_enter Try.func56, Try.ntmps56
    go_wp2
    go_ret
    exact ⟨rfl, 0, rfl⟩
  · have h' : (H.roomI x : Int) ≤ k := by omega
    have hR := room_calls hA hW x
    generalize H.roomI x = r at *
    clear h
    go_enter Try.func56, Try.ntmps56
    go_wp2_with (go_at_call 75; refine hR.mono ?_; rintro e w' ⟨rfl, q, rfl⟩)
    go_ret
    exact ⟨rfl, _, rfl⟩

set_option maxHeartbeats 400000 in
theorem store_yes {w : World} {B : HB} {H : HS} (hA : HeapAt w B H) (hW : H.Wf) (x k v : Int) (h0 : 0 ≤ k) (h : k < (H.roomI x : Int)) :
    Calls Try.prog 56 #[.pointer (some ⟨B.h, 0, none⟩), .int .i64 x, .int .i64 k, .int .i64 v] w fun e w' => e = .returned (.bool true) ∧
      HeapAt w' B { H with words := setf H.words (x + k).toNat v } ∧ Keeps B.wr w w' ∧ w'.heap.size = w.heap.size := by
  have hR := room_calls hA hW x
  have hin := (roomI_le hW x).2 (by omega)
  have hle := (roomI_le hW x).1
  have hnb := hW.nb
  have c0 := hA.c0
  obtain ⟨X, rfl⟩ := Int.eq_ofNat_of_zero_le (show 0 ≤ x by omega)
  obtain ⟨K, rfl⟩ := Int.eq_ofNat_of_zero_le h0
  have hcell := hA.wd.cell (i := X + K) (by omega)
  have hfree := hA.wd.free (X + K)
  have hlt : ((X : Int) + K) < ((64 * H.n : Nat) : Int) := by omega
  rw [show ((X : Int) + (K : Int)).toNat = X + K by omega]
  have fin : ∀ q, HeapAt ((w.drewN q).setCell ⟨B.w, X + K, none⟩ (.int .i64 v)) B { H with words := setf H.words (X + K) v } ∧ Keeps B.wr w ((w.drewN q).setCell ⟨B.w, X + K, none⟩ (.int .i64 v)) :=
    fun q => ⟨(hA.drewN q).setWord (by omega) v, ((Keeps.refl _ _).drewN q).setCell (fun _ => .inl rfl) _⟩
  have FIN := Lib.hid fin
  clear fin
  generalize H.roomI X = r at *
  generalize 64 * H.n = N at *
  have hb1 : (X : Int) + K ≤ 1048576 * 2 := by omega
  clear hin
  go_enter Try.func56, Try.ntmps56
  go_wp2_with (go_at_call 75; refine hR.mono ?_; rintro e w' ⟨rfl, q, rfl⟩)
  go_ret
  exact ⟨rfl, (FIN.out _).1, (FIN.out _).2, by simp⟩

set_option maxHeartbeats 400000 in
theorem full_calls (w : World) (c : Nat) (hc : HS.Cl (c : Int)) :
    Calls Try.prog 72 #[.int .i64 c] w fun e w' => e = .returned (.int .u64 (HS.full c)) ∧ w = w' := by
  rcases HS.cl_cases hc with h | h | h | h | h | h
  all_goals
    subst h
    go_enter Try.func72, Try.ntmps72
    go_wp2
    go_ret
    exact ⟨by simp [HS.full], rfl⟩
end Go.Proofs.Ytnbiofcfphpikaa
