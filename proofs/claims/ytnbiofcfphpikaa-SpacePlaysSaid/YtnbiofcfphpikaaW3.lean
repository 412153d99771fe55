/-
  The walks of clear and place.
-/
import Derived.Test.YtnbiofcfphpikaaW2
namespace Go.Proofs.Ytnbiofcfphpikaa
open Go.RowKit

theorem HeapAt.clearWords {B : HB} : ∀ (n : Nat) (w : World) (H : HS) (a : Nat), HeapAt w B H → a + n ≤ 64 * H.n →
    HeapAt (w.setCells B.w a (List.replicate n (.int .i64 0))) B { H with words := setr H.words a n 0 } ∧ Keeps B.wr w (w.setCells B.w a (List.replicate n (.int .i64 0))) ∧ (w.setCells B.w a (List.replicate n (.int .i64 0))).heap.size = w.heap.size
  | 0, w, H, a, h, _ => ⟨h.congr rfl (fun i _ => by show setr H.words a 0 0 i = _; exact setr_out _ _ (by omega)) (fun _ _ => rfl) (fun _ _ => rfl) (fun _ _ => rfl), Keeps.refl _ _, rfl⟩
  | n + 1, w, H, a, h, hn => by
    have h1 := h.setWord (i := a) (by omega) 0
    have ih := HeapAt.clearWords n _ _ (a + 1) h1 (by show a + 1 + n ≤ 64 * H.n; omega)
    rw [List.replicate_succ]
    refine ⟨ih.1.congr rfl (fun i _ => ?_) (fun _ _ => rfl) (fun _ _ => rfl) (fun _ _ => rfl), ?_, ?_⟩
    · show setr H.words a (n + 1) 0 i = setr (setf H.words a 0) (a + 1) n 0 i
      by_cases e : a ≤ i ∧ i < a + (n + 1)
      · rw [setr_in _ _ e.1 e.2]
        by_cases e2 : i = a
        · subst e2; rw [setr_out _ _ (by omega), setf_same]
        · rw [setr_in _ _ (by omega) (by omega)]
      · rw [setr_out _ _ (by omega), setr_out _ _ (by omega), setf_ne _ _ (by omega)]
    · exact ((Keeps.refl _ _).setCell (fun _ => .inl rfl) _).trans ih.2.1 (fun _ _ h => h)
    · exact ih.2.2.trans (by simp)

theorem Try.underlying_ints : Try.prog.underlying 22 = some (.slice 3) := by kernel_rfl
theorem Try.zero_int : ∀ w, (zeroValue 3).run Try.prog w = .ok (.int .i64 0) w := fun _ => by kernel_rfl

set_option maxHeartbeats 400000 in
theorem clear_calls {w : World} {B : HB} {H : HS} (hA : HeapAt w B H) (hW : H.Wf) (a n : Nat) (hn : 0 < n) (h : a + n ≤ 64 * H.n) :
    Calls Try.prog 73 #[.pointer (some ⟨B.h, 0, none⟩), .int .i64 a, .int .i64 n] w fun e w' => e = .returned (.int .i64 a) ∧
      HeapAt w' B { H with words := setr H.words a n 0 } ∧ Keeps B.wr w w' ∧ w'.heap.size = w.heap.size := by
  have hnb := hW.nb
  have c0 := hA.c0
  have fin := HeapAt.clearWords n w H a hA h
  have FIN := Lib.hid fin
  clear fin
  have run := fun ty c => Lib.run_clear_slice (P := Try.prog) w 22 3 ty (.int .i64 0) Try.underlying_ints Try.zero_int rfl rfl B.w a n c hn
    (fun j hj => by rw [hA.wd.cell (i := a + j) (by omega)]; rfl) (fun j _ => hA.wd.free _)
  have ha1 : (a : Int) ≤ 1048576 := by omega
  have ha2 : (n : Int) ≤ 1048576 := by omega
  generalize 64 * H.n = N at *
  have hne : ¬ N = a := by omega
  have hle : a ≤ a + n := by omega
  go_enter Try.func73, Try.ntmps73
  go_wp2
  go_ret
  exact ⟨rfl, FIN.out⟩

set_option maxHeartbeats 400000 in
theorem place_raw (hb ub n s c q u : Nat) (w : World) (hn : n ≤ 16384) (hs : s < n)
    (h2 : w.cell? ⟨hb, 2, none⟩ = some (.slice (some ⟨ub, 0, none⟩) n n))
    (hu : w.cell? ⟨ub, s, none⟩ = some (.int .u64 u)) (hf : w.frozen? ⟨ub, s, none⟩ = false) (hu64 : u < 18446744073709551616)
    (hq : q < 64) (hbt : u.testBit q = false) (hl : ∀ j, j < q → u.testBit j = true) (hc : c ≤ 64) :
    Calls Try.prog 74 #[.pointer (some ⟨hb, 0, none⟩), .int .i64 s, .int .i64 c] w fun e w' => e = .returned (.int .i64 ((s : Int) * 64 + (q : Int) * (c : Int))) ∧
      ∃ r, w' = (w.setCell ⟨ub, s, none⟩ (.int .u64 (u ||| 2 ^ q : Nat))).drewN r := by
  have HU := Lib.hid hu64
  have HB := Lib.hid hbt
  have HL := Lib.hid hl
  clear hl hbt hu64
  have hqc : (q : Int) * (c : Int) ≤ 4096 := by
    have : q * c ≤ 64 * 64 := Nat.mul_le_mul (by omega) hc
    have h2 : ((q * c : Nat) : Int) ≤ 4096 := by omega
    simpa using h2
  have hqc0 : 0 ≤ (q : Int) * (c : Int) := Int.mul_nonneg (by omega) (by omega)
  go_enter Try.func74, Try.ntmps74
  go_wp2
  go_loopw [7] (fun k wr => ∃ j : Nat, j ≤ q ∧ k = .int .i64 j ∧ ∃ r, wr = w.drewN r) (fun k _ => q - (intOf k).toNat)
  case atStart => exact ⟨0, Nat.zero_le _, rfl, 0, rfl⟩
  case round =>
    obtain ⟨j, hj, rfl, r, rfl⟩ := hrel
    by_cases hlt : j < q
    · have hbit := bit_test HU.out (show j < 64 by omega)
      rw [HL.out j hlt] at hbit
      have hj64 : (j : Int) < 64 := by omega
      go_wp2_with fail
      go_quiet (fail)
      go_wp2
      go_roundw
      case rel => exact ⟨j + 1, by omega, by go_num, _, rfl⟩
      case measure => simp [intOf]; omega
    · obtain rfl : q = j := by omega
      have hbit := bit_test HU.out (show q < 64 by omega)
      rw [HB.out] at hbit
      have hor := bit_or HU.out (show q < 64 by omega)
      have hj64 : (q : Int) < 64 := by omega
      go_wp2_with fail
      go_quiet (fail)
      go_wp2
      go_region
      all_goals go_wp2
      all_goals go_ret
      all_goals exact ⟨rfl, _, rfl⟩

/-- place. -/
theorem place_calls {w : World} {B : HB} {H : HS} (hA : HeapAt w B H) (hn : H.n ≤ 16384) (s c : Nat) (hs : s < H.n) (hcl : HS.Cl (c : Int)) (hu : H.used s < 2 ^ (64 / c)) (hf : H.used s ≠ HS.full c) :
    Calls Try.prog 74 #[.pointer (some ⟨B.h, 0, none⟩), .int .i64 s, .int .i64 c] w fun e w' => e = .returned (.int .i64 (H.placeAt s c : Nat)) ∧
      HeapAt w' B { H with used := setf H.used s (H.used s ||| 2 ^ HS.lz (H.used s)) } ∧ Keeps B.wr w w' ∧ w'.heap.size = w.heap.size := by
  have hp := HS.cl_pos hcl
  obtain ⟨h1, h2, h3⟩ := HS.lz_spec hu hf (by omega)
  have h64 : H.used s < 18446744073709551616 := by
    have : (2 : Nat) ^ (64 / c) ≤ 2 ^ 64 := Nat.pow_le_pow_right (by omega) (Nat.div_le_self _ _)
    have h64 : (2 : Nat) ^ 64 = 18446744073709551616 := by decide
    omega
  refine (place_raw B.h B.u H.n s c (HS.lz (H.used s)) (H.used s) w hn hs hA.c2 (hA.us.cell hs) (hA.us.free s) h64 (by omega) h2 h3 hp.2.1).mono ?_
  rintro e w' ⟨rfl, r, rfl⟩
  refine ⟨ret_i64 ?_, (hA.setUsed hs _).drewN r, (((Keeps.refl _ _).setCell (fun _ => .inr (.inr (.inl rfl))) _).drewN r), by simp⟩
  unfold HS.placeAt
  generalize HS.lz (H.used s) = q
  rw [Int.natCast_add, Int.natCast_mul, Int.natCast_mul]
  omega
end Go.Proofs.Ytnbiofcfphpikaa
