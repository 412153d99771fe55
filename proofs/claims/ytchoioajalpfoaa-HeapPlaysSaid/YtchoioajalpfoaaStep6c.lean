/-
  derricklaw06: the walk of step, the fourth kind: a word of the n-th block.
-/
import Derived.Test.YtchoioajalpfoaaStep6b
namespace Go.Proofs.Ytchoioajalpfoaa
open Go.RowKit

section
variable {w0 w : World} {B : HB} {rb : Nat} {H : HS}
/-- A word into both. -/
theorem Duo.hstore_yes {Hh Hr : HS} {bx : Nat} {x0 x1 x2 x3 : Int} (h : Duo w0 w B rb Hh Hr bx x0 x1 x2 x3) (hW : Hh.Wf) (y t : Nat) (v : Int) (ht : t < Hh.room y) :
    Calls Try.prog 16 #[.pointer (some ⟨B.h, 0, none⟩), .int .i64 y, .int .i64 t, .int .i64 v] w fun e w' => e = .returned (.bool true) ∧ Keeps B.wr w w' ∧ Hid (Duo w0 w' B rb { Hh with words := setf Hh.words (y + t) v } Hr bx x0 x1 x2 x3) := by
  have := store_yes h.heap hW (y : Int) (t : Int) v (by omega) (by rw [HS.roomI_nat]; omega)
  rw [show ((y : Int) + (t : Int)).toNat = y + t by omega] at this
  exact this.mono fun _ _ ⟨he, hA, hK, _⟩ => ⟨he, hK, h.heapOp hA hK⟩
theorem Duo.hstore_no {Hh Hr : HS} {bx : Nat} {x0 x1 x2 x3 : Int} (h : Duo w0 w B rb Hh Hr bx x0 x1 x2 x3) (hW : Hh.Wf) (x k v : Int) (hk : k < 0 ∨ (Hh.roomI x : Int) ≤ k) (q : Nat) :
    Calls Try.prog 16 #[.pointer (some ⟨B.h, 0, none⟩), .int .i64 x, .int .i64 k, .int .i64 v] (w.drewN q) fun e w' => e = .returned (.bool false) ∧ ∃ m, w' = w.drewN m :=
  quiet_of (fun q => store_no (h.drewN q).heap hW x k v hk) q

set_option maxRecDepth 100000 in
set_option maxHeartbeats 8000000 in
theorem step6_4 (h : Play w0 w B rb H) (n k v : Int) :
    Calls Try.prog 18 #[.pointer (some ⟨B.h, 0, none⟩), .pointer (some ⟨rb, 0, none⟩), .agg #[.int .i64 4, .int .i64 n, .int .i64 k, .int .i64 v]] w fun e w' => e = .returned (.bool true) ∧ ∃ H', Hid (Play w0 w' B rb H') := by
  have HD := Lib.hid (h.box 43 4 n k v)
  have HW := Lib.hid h.wf
  obtain ⟨lv, L, h1, h2, h3⟩ := HD.out.open HW.out
  have hlen := h1.len_le HW.out
  obtain ⟨al, cl, rfl, hcl⟩ := h1.slice
  have c1 := h1.c1
  have HN := Lib.hid (nth6_calls h1 HW.out n)
  have HR1 := Lib.hid h1
  have HR2 := Lib.hid h2
  have HR3 := Lib.hid h3
  have HBD : Hid (∀ j, j < L.length → ra L j ≤ 1048576 ∧ rr L j ≤ 1048576 ∧ H.room (ra L j) = rr L j) := by
    intro j hj
    have h2 := HW.out.inside (h1.room_ne HW.out hj)
    have := HW.out.nb
    rw [h1.room_at hj]
    exact ⟨by omega, h2.2.2.2.2, rfl⟩
  clear h h1 h2 h3
  obtain ⟨m, HM⟩ : ∃ m, Hid (m = L.length) := ⟨_, rfl⟩
  rw [← HM.out] at HN HBD hlen hcl c1 HR1 HR2 HR3
  have HJM : Hid (∀ j, j < m → j < L.length) := by show ∀ j, _; rw [← HM.out]; exact fun _ h => h
  generalize hwb : w.alloc (.cells #[.int .i64 4, .int .i64 n, .int .i64 k, .int .i64 v] 43) = wb at *
  generalize hbx : w.heap.size = bx at *
  have b0 := HD.out.b0
  have b1 := HD.out.b1
  have b2 := HD.out.b2
  have b3 := HD.out.b3
  go_enter Try.func18, Try.ntmps18
  go_wp2_with fail
  refine HN.out.mono ?_
  rintro e w2 ⟨rfl | ⟨j, hj, rfl⟩, rfl⟩
  · go_wp2
    go_ret
    exact ⟨rfl, H, HD.out.play HW.out⟩
  · have hjl : Hid (j < L.length) := by show _; rw [← HM.out]; exact hj
    obtain ⟨b, rfl, -, e1, e2, e3⟩ := HR1.out.at_ hjl.out
    obtain ⟨q1, q2, q3⟩ := HBD.out j hj
    have HQ3 := Lib.hid q3
    have H3 := Lib.hid (HR3.out j)
    have H4 : Hid (∀ wx, Keeps (fun _ => False) w2 wx → wx.cell? ⟨b, j * 3, none⟩ = some (.int .i64 (ra L j : Nat)) ∧ wx.cell? ⟨b, j * 3 + 2, none⟩ = some (.slice (some ⟨rg L j, 0, none⟩) (rr L j) (rr L j))) := fun wx hk => ⟨hk.cell0 e1, hk.cell0 e3⟩
    have HNE : Hid (b ≠ rg L j ∧ rb ≠ rg L j ∧ ¬ B.fp b ∧ ¬ B.fp rb) := by
      have hw := HR1.out.wds_at hjl.out
      refine ⟨fun e => ownsRow_row_ne HR1.out.row hw (by rw [← e]; rfl), fun e => ?_, HR2.out b (.inr (.inl rfl)), HR2.out rb (.inl rfl)⟩
      obtain ⟨c, hc, _⟩ := hw
      rw [← e, HR1.out.hd] at hc
      simp at hc
    have HFR : Hid (∀ wx t, Keeps (fun _ => False) w2 wx → t < rr L j → wx.frozen? ⟨rg L j, t, none⟩ = false ∧ ∃ u, wx.cell? ⟨rg L j, t, none⟩ = some u) := fun wx t hk ht => ⟨((HR1.out.wds_at hjl.out).keep hk (fun h => h)).free t, _, ((HR1.out.wds_at hjl.out).keep hk (fun h => h)).cell ht⟩
    clear q3 HR2 HR3 HBD HN hwb hbx
    by_cases hok : 0 ≤ k ∧ k < (rr L j : Int)
    · obtain ⟨t, rfl⟩ : ∃ t : Nat, k = (t : Int) := ⟨k.toNat, by omega⟩
      have htl : t < rr L j := by omega
      have HD2 : Hid (∀ wx, Keeps (fun _ => False) w2 wx → Duo w0 (wx.setCell ⟨rg L j, t, none⟩ (.int .i64 v)) B rb H { H with words := setf H.words (ra L j + t) v } bx 4 n t v ∧ RefAt (wx.setCell ⟨rg L j, t, none⟩ (.int .i64 v)) rb (.slice (some ⟨b, 0, none⟩) m cl) L { H with words := setf H.words (ra L j + t) v }) := fun wx hk => H3.out t v wx hk hj htl
      have HST : Hid (∀ wx Hr, Hid (Duo w0 wx B rb H Hr bx 4 n t v) → Calls Try.prog 16 #[.pointer (some ⟨B.h, 0, none⟩), .int .i64 (ra L j : Nat), .int .i64 t, .int .i64 v] wx fun e w' => e = .returned (.bool true) ∧ Keeps B.wr wx w' ∧ Hid (Duo w0 w' B rb { H with words := setf H.words (ra L j + t) v } Hr bx 4 n t v)) := fun wx Hr hd => hd.out.hstore_yes HW.out _ t v (by rw [HQ3.out]; exact htl)
      have HWW : Hid (HS.Wf { H with words := setf H.words (ra L j + t) v }) := HW.out.withWords _
      have d1 : decide ((0 : Int) ≤ (t : Int)) = true := decide_eq_true (by omega)
      have d2 : decide ((t : Int) < (rr L j : Int)) = true := decide_eq_true (by omega)
      clear H3 hok
      generalize setf H.words (ra L j + t) v = W at *
      generalize ra L j = y at *
      generalize rr L j = z at *
      generalize rg L j = g at *
      go_wp2_with fail
      go_quiet (fail)
      obtain ⟨w3, hw3⟩ : ∃ w3, w3 = w2.drewN nq := ⟨_, rfl⟩
      rw [← hw3]
      have HK3 : Hid (Keeps (fun _ => False) w2 w3) := by rw [hw3]; exact (Keeps.refl _ w2).drewN nq
      clear hw3
      have hc1 : w3.drew.cell? ⟨rb, 1, none⟩ = some (.slice (some ⟨b, 0, none⟩) m cl) := HK3.out.cell0 c1
      have hb2 : w3.drew.cell? ⟨bx, 2, none⟩ = some (.int .i64 t) := HK3.out.cell0 b2
      have hb3 : w3.drew.cell? ⟨bx, 3, none⟩ = some (.int .i64 v) := HK3.out.cell0 b3
      have he3 : w3.drew.cell? ⟨b, j * 3 + 2, none⟩ = some (.slice (some ⟨g, 0, none⟩) z z) := HK3.out.cell0 e3
      have hfr := HFR.out w3.drew t HK3.out.drew htl
      obtain ⟨hf1, uu, hf2⟩ := hfr
      go_wp2_with fail
      refine wp_region_still_tail 13 (by kernel_rfl) (by kernel_rfl) ?_
      change wpStill _ _ (World.drew _) _ _ _
      simp only [List.take_succ_cons, List.take_zero, List.drop_succ_cons, List.drop_zero]
      repeat still_step
      refine wpStill_nil ?_
      change wpList _ _ _ _ _ (World.drew _)
      have hd2 := HD2.out w3 HK3.out
      have HD4 : Hid (Duo w0 (w3.setCell ⟨g, t, none⟩ (.int .i64 v)).drew B rb H { H with words := W } bx 4 n t v) := hd2.1.drewN 1
      have HR4 : Hid (RefAt (w3.setCell ⟨g, t, none⟩ (.int .i64 v)).drew rb (.slice (some ⟨b, 0, none⟩) m cl) L { H with words := W }) := hd2.2.drewN 1
      have he4 : (w3.setCell ⟨g, t, none⟩ (.int .i64 v)).drew.cell? ⟨b, j * 3, none⟩ = some (.int .i64 y) := by
        have hK : Keeps (fun k => k = g) w3 (w3.setCell ⟨g, t, none⟩ (.int .i64 v)).drew := ((Keeps.refl (fun k => k = g) w3).setCell (p := ⟨g, t, none⟩) (fun _ => rfl) _).drew
        exact hK.cell (HK3.out.cell0 e1) HNE.out.1
      go_wp2_with fail
      clear hd2 hc1 hb2 hb3 he3 hf1 hf2 c1 b0 b1 b2 b3 e1 e2 e3 HD
      generalize (w3.setCell ⟨g, t, none⟩ (.int .i64 v)).drew = w4 at *
      have hc4 := HR4.out.c1
      have h42 := HD4.out.b2
      have h43 := HD4.out.b3
      have HS0 : Hid (w4.drew.cell? ⟨rb, 1, none⟩ = some (.slice (some ⟨b, 0, none⟩) m cl) ∧ w4.drew.cell? ⟨b, j * 3, none⟩ = some (.int .i64 y) ∧ w4.drew.cell? ⟨bx, 2, none⟩ = some (.int .i64 t) ∧ w4.drew.cell? ⟨bx, 3, none⟩ = some (.int .i64 v)) := ⟨hc4, he4, h42, h43⟩
      have HS4 : Hid (Calls Try.prog 16 #[.pointer (some ⟨B.h, 0, none⟩), .int .i64 y, .int .i64 t, .int .i64 v] w4.drew fun e w' => e = .returned (.bool true) ∧ w'.cell? ⟨rb, 1, none⟩ = some (.slice (some ⟨b, 0, none⟩) m cl) ∧ w'.cell? ⟨b, j * 3, none⟩ = some (.int .i64 y) ∧ w'.cell? ⟨bx, 2, none⟩ = some (.int .i64 t) ∧ w'.cell? ⟨bx, 3, none⟩ = some (.int .i64 v) ∧ Hid (Duo w0 w' B rb { H with words := W } { H with words := W } bx 4 n t v)) := by
        refine (HST.out w4.drew _ (HD4.out.drewN 1)).mono ?_
        rintro e w' ⟨he, hK, hd⟩
        exact ⟨he, hK.cell HS0.out.1 (fun h => HNE.out.2.2.2 (.inr h)), hK.cell HS0.out.2.1 (fun h => HNE.out.2.2.1 (.inr h)), hd.out.b2, hd.out.b3, hd⟩
      clear hc4 h42 h43 he4 HR4 HD4 HST HD2
      go_region_held3 (fun w' => w'.cell? ⟨rb, 1, none⟩ = some (.slice (some ⟨b, 0, none⟩) m cl) ∧ w'.cell? ⟨b, j * 3, none⟩ = some (.int .i64 y) ∧ w'.cell? ⟨bx, 2, none⟩ = some (.int .i64 t) ∧ w'.cell? ⟨bx, 3, none⟩ = some (.int .i64 v)) (first | exact HS0.out | (refine ⟨?_, ?_, ?_, ?_⟩ <;> assumption))
        (first | (go_at_call 16; refine HS4.out.mono ?_; rintro e w' ⟨rfl, hs1, hs2, hs3, hs4, hd⟩))
      go_wp2
      go_ret
      exact ⟨rfl, _, Duo.play (Hid.out (by assumption)) HWW.out⟩
    · have hno : k < 0 ∨ (H.roomI ((ra L j : Nat) : Int) : Int) ≤ k := by
        rw [HS.roomI_nat, HQ3.out]
        omega
      have HNO := Lib.hid hno
      clear hno H3 H4 HFR
      by_cases h0 : 0 ≤ k
      · have d1 : decide ((0 : Int) ≤ k) = true := decide_eq_true h0
        have d2 : decide (k < (rr L j : Int)) = false := decide_eq_false (by omega)
        generalize ra L j = y at *
        generalize rr L j = z at *
        generalize rg L j = g at *
        clear hok
        go_wp2_with fail
        go_quiet (fail)
        obtain ⟨w3, hw3⟩ : ∃ w3, w3 = w2.drewN nq := ⟨_, rfl⟩
        rw [← hw3]
        have HK3 : Hid (Keeps (fun _ => False) w2 w3) := by rw [hw3]; exact (Keeps.refl _ w2).drewN nq
        clear hw3
        have HD3 := Lib.hid (HD.out.keep0 HK3.out)
        have HST2 := Lib.hid (HD3.out.hstore_no HW.out (y : Nat) k v HNO.out)
        replace c1 := HK3.out.cell0 c1
        replace b2 := HK3.out.cell0 b2
        replace b3 := HK3.out.cell0 b3
        replace e1 := HK3.out.cell0 e1
        go_wp2_with fail
        go_quiet ((go_at_call 16; exact HST2.out _))
        go_wp2
        go_ret
        exact ⟨rfl, H, (HD3.out.drewN _).play HW.out⟩
      · have d1 : decide ((0 : Int) ≤ k) = false := decide_eq_false h0
        generalize ra L j = y at *
        generalize rr L j = z at *
        generalize rg L j = g at *
        clear hok
        go_wp2_with fail
        go_quiet (fail)
        obtain ⟨w3, hw3⟩ : ∃ w3, w3 = w2.drewN nq := ⟨_, rfl⟩
        rw [← hw3]
        have HK3 : Hid (Keeps (fun _ => False) w2 w3) := by rw [hw3]; exact (Keeps.refl _ w2).drewN nq
        clear hw3
        have HD3 := Lib.hid (HD.out.keep0 HK3.out)
        have HST2 := Lib.hid (HD3.out.hstore_no HW.out (y : Nat) k v HNO.out)
        replace c1 := HK3.out.cell0 c1
        replace b2 := HK3.out.cell0 b2
        replace b3 := HK3.out.cell0 b3
        replace e1 := HK3.out.cell0 e1
        go_wp2_with fail
        go_quiet ((go_at_call 16; exact HST2.out _))
        go_wp2
        go_ret
        exact ⟨rfl, H, (HD3.out.drewN _).play HW.out⟩
end
end Go.Proofs.Ytchoioajalpfoaa
