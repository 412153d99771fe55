/-
  derricklaw06: the walk of step, the fifth kind: a word of the block at a word; and no kind at all.
-/
import Derived.Test.YtchoioajalpfoaaStep6c
namespace Go.Proofs.Ytchoioajalpfoaa
open Go.RowKit

section
variable {w0 w : World} {B : HB} {rb : Nat} {H : HS}
set_option maxRecDepth 100000 in
set_option maxHeartbeats 8000000 in
theorem step6_5 (h : Play w0 w B rb H) (n k v : Int) :
    Calls Try.prog 18 #[.pointer (some ⟨B.h, 0, none⟩), .pointer (some ⟨rb, 0, none⟩), .agg #[.int .i64 5, .int .i64 n, .int .i64 k, .int .i64 v]] w fun e w' => e = .returned (.bool true) ∧ ∃ H', Hid (Play w0 w' B rb H') := by
  have HD := Lib.hid (h.box 43 5 n k v)
  have HW := Lib.hid h.wf
  obtain ⟨lv, L, h1, h2, h3⟩ := HD.out.open HW.out
  have hlen := h1.len_le HW.out
  obtain ⟨al, cl, rfl, hcl⟩ := h1.slice
  have c1 := h1.c1
  have HN := Lib.hid (rfind_calls h1 HW.out n)
  have HR1 := Lib.hid h1
  have HR2 := Lib.hid h2
  have HR3 := Lib.hid h3
  have HFR := h1.find_room HW.out n
  have HBD : Hid (∀ j, j < L.length → ra L j ≤ 1048576 ∧ rr L j ≤ 1048576 ∧ H.room (ra L j) = rr L j) := by
    intro j hj
    have h2 := HW.out.inside (h1.room_ne HW.out hj)
    have := HW.out.nb
    rw [h1.room_at hj]
    exact ⟨by omega, h2.2.2.2.2, rfl⟩
  clear h h1 h2 h3
  obtain ⟨m, HM⟩ : ∃ m, Hid (m = L.length) := ⟨_, rfl⟩
  rw [← HM.out] at HBD hlen hcl c1 HR1 HR2 HR3 HFR
  have HJM : Hid (∀ j, j < m → j < L.length) := by show ∀ j, _; rw [← HM.out]; exact fun _ h => h
  generalize hwb : w.alloc (.cells #[.int .i64 5, .int .i64 n, .int .i64 k, .int .i64 v] 43) = wb at *
  generalize hbx : w.heap.size = bx at *
  have b0 := HD.out.b0
  have b1 := HD.out.b1
  have b2 := HD.out.b2
  have b3 := HD.out.b3
  rcases HFR with ⟨hr, hf⟩ | ⟨j, hj, rfl, hf, hr, hz⟩
  · rw [hf] at HN
    have HNO : Hid (k < 0 ∨ (H.roomI n : Int) ≤ k) := by show _ ∨ _; rw [hr]; omega
    clear hr hf HR1 HR2 HR3 HBD
    go_enter Try.func18, Try.ntmps18
    go_wp2_with fail
    refine HN.out.mono ?_
    rintro e w2 ⟨rfl, q2, hw2⟩
    have HK2 : Hid (Keeps (fun _ => False) wb w2) := by rw [hw2]; exact (Keeps.refl _ wb).drewN q2
    clear hw2 hwb hbx
    have HD2 := Lib.hid (HD.out.keep0 HK2.out)
    replace b1 := HK2.out.cell0 b1
    replace b2 := HK2.out.cell0 b2
    replace b3 := HK2.out.cell0 b3
    go_wp2_with fail
    go_quiet (fail)
    have HD3 := Lib.hid (HD2.out.drewN nq)
    have HST := Lib.hid (HD3.out.hstore_no HW.out n k v HNO.out 0)
    go_wp2_with fail
    refine HST.out.mono ?_
    rintro e w4 ⟨rfl, q4, rfl⟩
    go_wp2
    go_ret
    exact ⟨rfl, H, (HD2.out.drewN (nq + q4)).play HW.out⟩
  · rw [hf] at HN
    have hjl : Hid (j < L.length) := HJM.out j hj
    obtain ⟨b, rfl, -, e1, e2, e3⟩ := HR1.out.at_ hjl.out
    obtain ⟨q1, q2, q3⟩ := HBD.out j hj
    have HQ3 := Lib.hid q3
    have H3 := Lib.hid (HR3.out j)
    have HFZ : Hid (∀ wx t, Keeps (fun _ => False) wb wx → t < rr L j → wx.frozen? ⟨rg L j, t, none⟩ = false ∧ ∃ u, wx.cell? ⟨rg L j, t, none⟩ = some u) := fun wx t hk ht => ⟨((HR1.out.wds_at hjl.out).keep hk (fun h => h)).free t, _, ((HR1.out.wds_at hjl.out).keep hk (fun h => h)).cell ht⟩
    have hj0 : (0 : Int) ≤ (j : Int) := by omega
    have dj0 : decide ((0 : Int) ≤ (j : Int)) = true := decide_eq_true hj0
    have hmx : (if 0 < j then (j : Int) else 0) = (j : Int) := by split <;> omega
    clear q3 HR2 HR3 HBD hf hr hz
    by_cases hok : 0 ≤ k ∧ k < (rr L j : Int)
    · obtain ⟨t, rfl⟩ : ∃ t : Nat, k = (t : Int) := ⟨k.toNat, by omega⟩
      have htl : t < rr L j := by omega
      have HD2 : Hid (∀ wx, Keeps (fun _ => False) wb wx → Duo w0 (wx.setCell ⟨rg L j, t, none⟩ (.int .i64 v)) B rb H { H with words := setf H.words (ra L j + t) v } bx 5 (ra L j : Nat) t v ∧ RefAt (wx.setCell ⟨rg L j, t, none⟩ (.int .i64 v)) rb (.slice (some ⟨b, 0, none⟩) m cl) L { H with words := setf H.words (ra L j + t) v }) := fun wx hk => H3.out t v wx hk hj htl
      have HST : Hid (∀ wx Hr, Hid (Duo w0 wx B rb H Hr bx 5 (ra L j : Nat) t v) → Calls Try.prog 16 #[.pointer (some ⟨B.h, 0, none⟩), .int .i64 (ra L j : Nat), .int .i64 t, .int .i64 v] wx fun e w' => e = .returned (.bool true) ∧ Keeps B.wr wx w' ∧ Hid (Duo w0 w' B rb { H with words := setf H.words (ra L j + t) v } Hr bx 5 (ra L j : Nat) t v)) := fun wx Hr hd => hd.out.hstore_yes HW.out _ t v (by rw [HQ3.out]; exact htl)
      have HWW : Hid (HS.Wf { H with words := setf H.words (ra L j + t) v }) := HW.out.withWords _
      have d1 : decide ((0 : Int) ≤ (t : Int)) = true := decide_eq_true (by omega)
      have d2 : decide ((t : Int) < (rr L j : Int)) = true := decide_eq_true (by omega)
      clear H3 hok
      generalize setf H.words (ra L j + t) v = W at *
      generalize ra L j = y at *
      generalize rr L j = z at *
      generalize rg L j = g at *
      go_enter Try.func18, Try.ntmps18
      go_wp2_with fail
      refine HN.out.mono ?_
      rintro e w2 ⟨rfl, q2', hw2⟩
      have HK2 : Hid (Keeps (fun _ => False) wb w2) := by rw [hw2]; exact (Keeps.refl _ wb).drewN q2'
      clear hw2 hwb hbx HN
      replace c1 := HK2.out.cell0 c1
      replace b1 := HK2.out.cell0 b1
      replace b2 := HK2.out.cell0 b2
      replace b3 := HK2.out.cell0 b3
      replace e2 := HK2.out.cell0 e2
      replace e3 := HK2.out.cell0 e3
      go_wp2_with fail
      go_quiet (fail)
      obtain ⟨w3, hw3⟩ : ∃ w3, w3 = w2.drewN nq := ⟨_, rfl⟩
      rw [← hw3]
      have HK3 : Hid (Keeps (fun _ => False) wb w3) := by rw [hw3]; exact HK2.out.drewN nq
      have hc1 : w3.drew.cell? ⟨rb, 1, none⟩ = some (.slice (some ⟨b, 0, none⟩) m cl) := by rw [hw3]; exact c1
      have hb2 : w3.drew.cell? ⟨bx, 2, none⟩ = some (.int .i64 t) := by rw [hw3]; exact b2
      have hb3 : w3.drew.cell? ⟨bx, 3, none⟩ = some (.int .i64 v) := by rw [hw3]; exact b3
      have he3 : w3.drew.cell? ⟨b, j * 3 + 2, none⟩ = some (.slice (some ⟨g, 0, none⟩) z z) := by rw [hw3]; exact e3
      have hfr := HFZ.out w3.drew t HK3.out.drew htl
      obtain ⟨hf1, uu, hf2⟩ := hfr
      clear hw3
      go_wp2_with fail
      refine wp_region_still_tail 13 (by kernel_rfl) (by kernel_rfl) ?_
      change wpStill _ _ (World.drew _) _ _ _
      simp only [List.take_succ_cons, List.take_zero, List.drop_succ_cons, List.drop_zero]
      repeat still_step
      refine wpStill_nil ?_
      change wpList _ _ _ _ _ (World.drew _)
      have hd2 := HD2.out w3 HK3.out
      have HD4 : Hid (Duo w0 (w3.setCell ⟨g, t, none⟩ (.int .i64 v)).drew B rb H { H with words := W } bx 5 y t v) := hd2.1.drewN 1
      have h41 := HD4.out.b1
      have h42 := HD4.out.b2
      have h43 := HD4.out.b3
      have HS4 := Lib.hid (HST.out _ _ HD4)
      clear hd2
      go_wp2_with fail
      refine HS4.out.mono ?_
      rintro e w' ⟨rfl, -, hd⟩
      go_wp2
      go_ret
      exact ⟨rfl, _, hd.out.play HWW.out⟩
    · have HNO : Hid (k < 0 ∨ (H.roomI ((ra L j : Nat) : Int) : Int) ≤ k) := by
        show _ ∨ _
        rw [HS.roomI_nat, HQ3.out]
        omega
      clear H3 HFZ
      by_cases h0 : 0 ≤ k
      case' pos =>
        have d1 : decide ((0 : Int) ≤ k) = true := decide_eq_true h0
        have d2 : decide (k < (rr L j : Int)) = false := decide_eq_false (by omega)
      case' neg =>
        have d1 : decide ((0 : Int) ≤ k) = false := decide_eq_false h0
      all_goals
        generalize ra L j = y at *
        generalize rr L j = z at *
        generalize rg L j = g at *
        clear hok
        go_enter Try.func18, Try.ntmps18
        go_wp2_with fail
        refine HN.out.mono ?_
        rintro e w2 ⟨rfl, q2', hw2⟩
        have HK2 : Hid (Keeps (fun _ => False) wb w2) := by rw [hw2]; exact (Keeps.refl _ wb).drewN q2'
        clear hw2 hwb hbx HN
        have HD2 := Lib.hid (HD.out.keep0 HK2.out)
        replace c1 := HK2.out.cell0 c1
        replace b1 := HK2.out.cell0 b1
        replace b2 := HK2.out.cell0 b2
        replace b3 := HK2.out.cell0 b3
        replace e2 := HK2.out.cell0 e2
        go_wp2_with fail
        go_quiet (fail)
        have HD3 := Lib.hid (HD2.out.drewN nq)
        have HST := Lib.hid (HD3.out.hstore_no HW.out (y : Nat) k v HNO.out 0)
        go_wp2_with fail
        refine HST.out.mono ?_
        rintro e w4 ⟨rfl, q4, rfl⟩
        go_wp2
        go_ret
        exact ⟨rfl, H, (HD2.out.drewN (nq + q4)).play HW.out⟩
set_option maxRecDepth 100000 in
set_option maxHeartbeats 4000000 in
theorem step6_0 (h : Play w0 w B rb H) (kd n k v : Int) (h1 : kd ≠ 1) (h2 : kd ≠ 2) (h3 : kd ≠ 3) (h4 : kd ≠ 4) (h5 : kd ≠ 5) :
    Calls Try.prog 18 #[.pointer (some ⟨B.h, 0, none⟩), .pointer (some ⟨rb, 0, none⟩), .agg #[.int .i64 kd, .int .i64 n, .int .i64 k, .int .i64 v]] w fun e w' => e = .returned (.bool true) ∧ ∃ H', Hid (Play w0 w' B rb H') := by
  have HD := Lib.hid (h.box 43 kd n k v)
  have HW := Lib.hid h.wf
  have d1 : (kd == 1) = false := beq_eq_false_iff_ne.2 h1
  have d2 : (kd == 2) = false := beq_eq_false_iff_ne.2 h2
  have d3 : (kd == 3) = false := beq_eq_false_iff_ne.2 h3
  have d4 : (kd == 4) = false := beq_eq_false_iff_ne.2 h4
  have d5 : (kd == 5) = false := beq_eq_false_iff_ne.2 h5
  clear h h1 h2 h3 h4 h5
  go_enter Try.func18, Try.ntmps18
  go_wp2
  go_ret
  exact ⟨rfl, H, HD.out.play HW.out⟩
theorem step6_calls (h : Play w0 w B rb H) (kd n k v : Int) :
    Calls Try.prog 18 #[.pointer (some ⟨B.h, 0, none⟩), .pointer (some ⟨rb, 0, none⟩), .agg #[.int .i64 kd, .int .i64 n, .int .i64 k, .int .i64 v]] w fun e w' => e = .returned (.bool true) ∧ ∃ H', Hid (Play w0 w' B rb H') := by
  by_cases h1 : kd = 1
  · subst h1; exact step6_1 h n k v
  by_cases h2 : kd = 2
  · subst h2; exact step6_2 h n k v
  by_cases h3 : kd = 3
  · subst h3; exact step6_3 h n k v
  by_cases h4 : kd = 4
  · subst h4; exact step6_4 h n k v
  by_cases h5 : kd = 5
  · subst h5; exact step6_5 h n k v
  exact step6_0 h kd n k v h1 h2 h3 h4 h5
end
end Go.Proofs.Ytchoioajalpfoaa
