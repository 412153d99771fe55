/-
  TextFull.
-/
import Derived.Test.YtnbiofcfphpikaaA13
namespace Go.Proofs.Ytnbiofcfphpikaa
open Go.RowKit

/-- New where there cannot be room. -/
theorem tNewNo {w wr : World} {R : Nat → Prop} {sp N : Nat} {M : Mp} {held : List Int} {n F : Nat} (h : SpA w wr R sp N M held n F) (s : ByteArray) (hs0 : 0 < s.size) (hs : s.size ≤ 16384) (hF : 64 * N ≤ (s.size + 7) / 8 + 1 + 64) (hl : held.length ≤ 1000000) (hn : n ≤ 1000000) :
    Calls Try.prog 34 #[.pointer (some ⟨sp, 0, none⟩), .string s] wr fun e w' => e = .returned (.tuple #[.int .i64 0, .bool false]) ∧ Hid (SpA w w' R sp N (mlive M held) held (n + 1) N ∧ Keeps (fun k => ¬ R k) wr w') := by
  refine (tNewGen (w := w) (R := R) (N := N) (sp := sp) (held := held) s hs0 hs (Q := fun _ _ _ _ => False) (Z := fun w' => Hid (SpA w w' R sp N (mlive M held) held (n + 1) N ∧ Keeps (fun k => ¬ R k) wr w')) ?_).mono ?_
  · have := sMakeAny h 1 0 ((s.size + 7) / 8 + 1) (by unfold hdrOk; omega) (by omega) (by omega)
    rw [show (((s.size + 7) / 8 + 1 : Nat) : Int) = ((s.size : Int) + 7) / 8 + 1 by omega] at this
    refine this.mono ?_
    rintro e w' (⟨a, M1, n1, rfl, _, hno, h2⟩ | ⟨rfl, h2, -⟩)
    · exfalso
      have := h2.out.1.isBlk (setf_same _ _ _)
      simp only at this
      omega
    · exact .inr ⟨rfl, h2⟩
  · rintro e w' (⟨a, M1, n1, F1, rfl, hq, h2⟩ | ⟨rfl, hz⟩)
    · exact hq.elim
    · exact ⟨rfl, hz⟩
theorem make_bytes (n : Nat) (hn : n ≤ 1048576) : ∃ Z : Array Value, (Z.size = n ∧ ∀ i, i < n → Z[i]? = some (.int .u8 0)) ∧
    ∀ W : World, (Instr.makeSlice 70 (.int .i64 n) (.int .i64 n)).run Try.prog W = .ok (.slice (some ⟨W.heap.size, 0, none⟩) n n) (W.alloc (.cells Z 5)) := by
  obtain ⟨i, hi, hz0, hz1, hz2⟩ := info_parts Try.info_byte
  refine ⟨madeCells (Value.int .u8 0).cells n, madeCells_get _ _, fun W => ?_⟩
  have := run_make (P := Try.prog) W 70 5 i (.int .u8 0) Try.underlying_bytes hi hz0 .i64 .i64 n n (by omega) (by omega) (by rw [hz2]; omega) (by omega)
  rw [hz1] at this
  simpa using this
def zeros (n : Nat) : ByteArray := ⟨(List.replicate n 0).toArray⟩
theorem zeros_size (n : Nat) : (zeros n).size = n := by simp [zeros, ByteArray.size]
theorem zeros_toList (n : Nat) : (zeros n).data.toList = List.replicate n 0 := by simp [zeros]

set_option maxRecDepth 100000 in
set_option maxHeartbeats 4000000 in
theorem textFull_calls (w : World) (m words : Nat) (hm0 : 1 ≤ m) (hm : m ≤ 70000) (hw1 : 128 ≤ words) (hw2 : words ≤ 16384) :
    Calls Try.prog 12 #[.int .i64 m, .int .i64 words] w fun e w' => e = .returned (.bool true) ∧ Keeps (fun _ => False) w w' := by
  have HAN := Lib.hid (anchor13_calls w)
  have HNW := Lib.hid (fun w => sNew w words (by omega) (by omega))
  have d1 : decide ((m : Int) < 1) = false := decide_eq_false (by omega)
  have d2 : decide ((70000 : Int) < (m : Int)) = false := decide_eq_false (by omega)
  have d3 : decide ((words : Int) < 128) = false := decide_eq_false (by omega)
  have d4 : decide ((16384 : Int) < (words : Int)) = false := decide_eq_false (by omega)
  obtain ⟨Z, hZ, mk⟩ := make_bytes m (by omega)
  have hrun : ∀ wx : World, (convert 70 9 (.slice (some ⟨wx.heap.size, 0, none⟩) m m)).run Try.prog (wx.alloc (.cells Z 5)) = .ok (.string (zeros m)) (wx.alloc (.cells Z 5)) := by
    intro wx
    have := run_convert_bytes_back (P := Try.prog) (wx.alloc (.cells Z 5)) 70 9 5 ⟨wx.heap.size, 0, none⟩ m (zeros m).data.toList Try.underlying_bytes (by kernel_rfl) (by kernel_rfl) (by
      intro j hj
      rw [zeros_toList, List.length_replicate] at hj
      have e : (⟨wx.heap.size, 0, none⟩ : Addr).add j = ⟨wx.heap.size, j, none⟩ := by unfold Addr.add; split <;> simp_all
      rw [e]
      have hc : (wx.alloc (.cells Z 5)).cell? ⟨wx.heap.size, j, none⟩ = Z[j]? := World.cell?_alloc_new wx Z _ j
      rw [hc, hZ.2 j hj]
      simp only [zeros_toList, List.getElem_replicate]
      rfl)
    rw [zeros_toList, List.length_replicate] at this
    exact this
  have hsz := zeros_size m
  have mkW := fun wx => mk wx
  clear hZ mk
  have hm0' : (0 : Int) ≤ (m : Int) := by omega
  go_enter Try.func12, Try.ntmps12
  go_wp2_with fail
  refine HAN.out.mono ?_
  rintro e w0 ⟨rfl, hk0⟩
  have HK0 := Lib.hid hk0
  clear hk0
  go_wp2_with fail
  refine (HNW.out w0).mono ?_
  rintro e w1 ⟨sp, rfl, h1⟩
  have HRUN := Lib.hid hrun
  have HSZ := Lib.hid hsz
  have hcase : (16384 < m ∧ decide ((m : Int) ≤ 16384) = false) ∨ (m ≤ 16384 ∧ decide ((m : Int) ≤ 16384) = true ∧ words / 64 ≤ (2 + (m + 7) / 8 + 63) / 64 ∧ decide ((2 + ((m : Int) + 7) / 8 + 63) / 64 ≤ (words : Int) / 64 - 1) = false) ∨ (m ≤ 16384 ∧ decide ((m : Int) ≤ 16384) = true ∧ (2 + (m + 7) / 8 + 63) / 64 + 1 ≤ words / 64 ∧ decide ((2 + ((m : Int) + 7) / 8 + 63) / 64 ≤ (words : Int) / 64 - 1) = true) := by
    by_cases h1 : m ≤ 16384
    · by_cases h2 : (2 + (m + 7) / 8 + 63) / 64 + 1 ≤ words / 64
      · exact .inr (.inr ⟨h1, decide_eq_true (by omega), h2, decide_eq_true (by omega)⟩)
      · exact .inr (.inl ⟨h1, decide_eq_true (by omega), by omega, decide_eq_false (by omega)⟩)
    · exact .inl ⟨by omega, decide_eq_false (by omega)⟩
  have HB := Lib.hid (fun wx => (h1.out.other0 ((Keeps.refl (fun _ => False) w1).alloc (.cells Z 5)) : SpA w0 (w1.alloc (.cells Z 5)) R0 sp (words / 64) (fun _ => none) [] 0 1) : World → _)
  have HS1 := Lib.hid (HB.out w1)
  clear hrun hsz h1 HNW HAN HB
  rcases hcase with ⟨hc, d5⟩ | ⟨hc, d5, hc2, d6⟩ | ⟨hc, d5, hc2, d6⟩
  · have H1 := Lib.hid (tLong sp (w1.alloc (.cells Z 5)) (zeros m) (by rw [HSZ.out]; exact hc))
    have HT := Lib.hid (sTold HS1.out (l := []) (by simp) (fun a => by simp))
    have hrun := HRUN.out w1
    generalize zeros m = zz at *
    clear HRUN HSZ
    go_wp2_with fail
    refine H1.out.mono ?_
    rintro e w2 ⟨rfl, rfl⟩
    clear hrun
    go_wp2_with fail
    refine HT.out.mono ?_
    rintro e w3 ⟨f, rfl, -, h3⟩
    have HKF := Lib.hid (HK0.out.trans h3.out.1.keeps (fun _ _ h => h))
    clear h3
    go_wp2
    go_ret
    exact ⟨rfl, HKF.out⟩
  · have H1 := Lib.hid (tNewNo HS1.out (zeros m) (by rw [HSZ.out]; omega) (by rw [HSZ.out]; exact hc) (by rw [HSZ.out]; omega) (by simp) (by omega))
    have hrun := HRUN.out w1
    generalize zeros m = zz at *
    clear HRUN HSZ
    go_wp2_with fail
    refine H1.out.mono ?_
    rintro e w2 ⟨rfl, h2⟩
    have h2' := h2.out.1
    rw [mlive_nil] at h2'
    have HT := Lib.hid (sTold h2' (l := []) (by simp) (fun a => by simp))
    clear hrun h2 h2'
    go_wp2_with fail
    refine HT.out.mono ?_
    rintro e w3 ⟨f, rfl, -, h3⟩
    have HKF := Lib.hid (HK0.out.trans h3.out.1.keeps (fun _ _ h => h))
    clear h3
    go_wp2
    go_ret
    exact ⟨rfl, HKF.out⟩
  · have H1 := Lib.hid (tNew HS1.out (zeros m) (by rw [HSZ.out]; omega) (by rw [HSZ.out]; exact hc) (by rw [HSZ.out]; unfold HS.spansOf; split <;> omega))
    have hrun := HRUN.out w1
    generalize zeros m = zz at *
    clear HRUN HSZ
    go_wp2_with fail
    refine H1.out.mono ?_
    rintro e w2 ⟨a, rfl, -, h2⟩
    obtain ⟨M', hS, -, ⟨b, hb, hT⟩, ho⟩ := h2.out
    have HT := Lib.hid (sTold hS (l := [a]) (by simp) (fun x => by
      rw [List.mem_singleton]
      constructor
      · rintro rfl; rw [hb]; simp
      · intro hx
        apply Classical.byContradiction
        intro hne
        exact hx (ho x hne)))
    clear hrun h2 hS hb hT ho
    go_wp2_with fail
    refine HT.out.mono ?_
    rintro e w3 ⟨f, rfl, -, h3⟩
    have HKF := Lib.hid (HK0.out.trans h3.out.1.keeps (fun _ _ h => h))
    clear h3
    go_wp2
    go_ret
    exact ⟨rfl, HKF.out⟩

set_option maxRecDepth 100000 in
set_option maxHeartbeats 4000000 in
theorem textFull_law (n m : Int) (w : World) :
    Calls Try.prog 12 #[.int .i64 n, .int .i64 m] w fun e w' => e = .returned (.bool true) ∧ Below w.heap.size w w' := by
  have HAN := Lib.hid (anchor13_calls w)
  by_cases h1 : n < 1
  · have d1 : decide (n < 1) = true := decide_eq_true h1
    go_enter Try.func12, Try.ntmps12
    go_wp2_with fail
    refine HAN.out.mono ?_
    rintro e w0 ⟨rfl, hk0⟩
    have HK0 := Lib.hid hk0
    clear hk0
    go_wp2
    go_ret
    exact ⟨rfl, HK0.out.below (fun _ _ h => h)⟩
  have d1 : decide (n < 1) = false := decide_eq_false h1
  by_cases h2 : (70000 : Int) < n
  · have d2 : decide ((70000 : Int) < n) = true := decide_eq_true h2
    go_enter Try.func12, Try.ntmps12
    go_wp2_with fail
    refine HAN.out.mono ?_
    rintro e w0 ⟨rfl, hk0⟩
    have HK0 := Lib.hid hk0
    clear hk0
    go_wp2
    go_ret
    exact ⟨rfl, HK0.out.below (fun _ _ h => h)⟩
  have d2 : decide ((70000 : Int) < n) = false := decide_eq_false h2
  by_cases h3 : m < 128
  · have d3 : decide (m < 128) = true := decide_eq_true h3
    go_enter Try.func12, Try.ntmps12
    go_wp2_with fail
    refine HAN.out.mono ?_
    rintro e w0 ⟨rfl, hk0⟩
    have HK0 := Lib.hid hk0
    clear hk0
    go_wp2
    go_ret
    exact ⟨rfl, HK0.out.below (fun _ _ h => h)⟩
  have d3 : decide (m < 128) = false := decide_eq_false h3
  by_cases h4 : (16384 : Int) < m
  · have d4 : decide ((16384 : Int) < m) = true := decide_eq_true h4
    go_enter Try.func12, Try.ntmps12
    go_wp2_with fail
    refine HAN.out.mono ?_
    rintro e w0 ⟨rfl, hk0⟩
    have HK0 := Lib.hid hk0
    clear hk0
    go_wp2
    go_ret
    exact ⟨rfl, HK0.out.below (fun _ _ h => h)⟩
  have d4 : decide ((16384 : Int) < m) = false := decide_eq_false h4
  obtain ⟨N, rfl⟩ := Int.eq_ofNat_of_zero_le (by omega : 0 ≤ n)
  obtain ⟨m, rfl⟩ := Int.eq_ofNat_of_zero_le (by omega : 0 ≤ m)
  exact (textFull_calls w N m (by omega) (by omega) (by omega) (by omega)).mono fun e w' ⟨he, hk⟩ => ⟨he, hk.below (fun _ _ h => h)⟩
end Go.Proofs.Ytnbiofcfphpikaa
