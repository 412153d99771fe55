/-
  SweepHeads: the walk and the law.
-/
import Derived.Test.YtnflgjhgegggcaaA7w
import Derived.ChangeKeysEq
import Derived.Below
namespace Go.Proofs.Ytnflgjhgegggcaa
open Go.RowKit

theorem und_arr3 : Try.prog.underlying 22 = some (.array 3 3) := by kernel_rfl
theorem eq_arr3 (x0 x1 x2 y0 y1 y2 : Int) (w : World) : (binOp .eql 22 (.agg #[.int .i64 x0, .int .i64 x1, .int .i64 x2]) (.agg #[.int .i64 y0, .int .i64 y1, .int .i64 y2])).run Try.prog w = .ok (.bool (decide (x0 = y0 ∧ x1 = y1 ∧ x2 = y2))) w := by
  obtain ⟨i0, hi, hz0, hz1, hz2⟩ := info_parts Try.info_int
  rw [run_eql_struct, show (10000 : Nat) = 9998 + 1 + 1 from rfl, run_equalIn_array w (9998 + 1) _ _ und_arr3 hi]
  have hc : Try.prog.cellsOf 3 = 1 := by kernel_rfl
  rw [hc, show List.range 3 = [0, 1, 2] from rfl]
  have u3 : Try.prog.underlying 3 = some (.int .i64) := und_int
  have hp : ∀ (xs : Array Value) (j : Nat) (v : Value) (w : World), xs[j]? = some v → (part 3 xs j).run Try.prog w = .ok v w := by
    intro xs j v w hv
    have ia : (isAgg 3).run Try.prog w = .ok false w := Try.isAgg3 w
    simp [part, ia, hv]
  simp only [Op.eqItems, Sem.run_bind, Nat.zero_mul, Nat.one_mul, Nat.mul_one]
  have px0 := fun w => hp #[.int .i64 x0, .int .i64 x1, .int .i64 x2] 0 (.int .i64 x0) w rfl
  have py0 := fun w => hp #[.int .i64 y0, .int .i64 y1, .int .i64 y2] 0 (.int .i64 y0) w rfl
  have px1 := fun w => hp #[.int .i64 x0, .int .i64 x1, .int .i64 x2] 1 (.int .i64 x1) w rfl
  have py1 := fun w => hp #[.int .i64 y0, .int .i64 y1, .int .i64 y2] 1 (.int .i64 y1) w rfl
  have px2 := fun w => hp #[.int .i64 x0, .int .i64 x1, .int .i64 x2] 2 (.int .i64 x2) w rfl
  have py2 := fun w => hp #[.int .i64 y0, .int .i64 y1, .int .i64 y2] 2 (.int .i64 y2) w rfl
  have he : ∀ a b w, (Op.equalIn 9999 3 (.int .i64 a) (.int .i64 b)).run Try.prog w = .ok (a == b) w := fun a b w => run_equalIn_int (P := Try.prog) w 9998 3 .i64 .i64 a b u3
  rw [show (9998 + 1 : Nat) = 9999 from rfl]
  clear hp hc hi hz0 hz1 hz2
  have e : decide (x0 = y0 ∧ x1 = y1 ∧ x2 = y2) = ((x0 == y0) && ((x1 == y1) && (x2 == y2))) := by
    by_cases h0 : x0 = y0 <;> by_cases h1 : x1 = y1 <;> by_cases h2 : x2 = y2 <;> simp [h0, h1, h2]
  rw [e]
  clear e
  simp only [px0, py0, Result.andThen_ok, he]
  cases (x0 == y0)
  · simp
  · simp only [Bool.not_true, Bool.false_eq_true, if_false, Sem.run_bind, px1, py1, Result.andThen_ok, he]
    cases (x1 == y1)
    · simp
    · simp only [Bool.not_true, Bool.false_eq_true, if_false, Sem.run_bind, px2, py2, Result.andThen_ok, he]
      cases (x2 == y2) <;> simp
/-- Two headers are alike just if all parts are. -/
theorem hdr_eq {k s m k' s' m' : Int} (h : hdrOk k s m) : (hdr k s m == hdr k' s' m') = decide (k = k' ∧ s = s' ∧ m = m') := by
  have hp := hdr_parts h
  by_cases e : k = k' ∧ s = s' ∧ m = m'
  · obtain ⟨rfl, rfl, rfl⟩ := e
    simp
  · rw [decide_eq_false e]
    apply beq_eq_false_iff_ne.2
    intro e'
    apply e
    by_cases h' : hdrOk k' s' m'
    · have hp' := hdr_parts h'
      rw [e'] at hp
      exact ⟨hp.1.symm.trans hp'.1, hp.2.1.symm.trans hp'.2.1, hp.2.2.1.symm.trans hp'.2.2.1⟩
    · rw [hdr_no h'] at e'
      exact absurd e' hp.2.2.2.2

set_option maxRecDepth 100000 in
set_option maxHeartbeats 8000000 in
theorem sweepHeads_law (a b : Nat → Int) (x : Int) (w : World) :
    Calls Try.prog 3 #[.agg #[.int .i64 (a 0), .int .i64 (a 1), .int .i64 (a 2)], .agg #[.int .i64 (b 0), .int .i64 (b 1), .int .i64 (b 2)], .int .i64 x] w fun e w' => e = .returned (.bool true) ∧ Below w.heap.size w w' := by
  generalize a 0 = a0
  generalize a 1 = a1
  generalize a 2 = a2
  generalize b 0 = b0
  generalize b 1 = b1
  generalize b 2 = b2
  have HAN := fun w => Lib.hid (anchor7_calls w)
  have HHH : Hid (∀ k s m w q, Calls Try.prog 9 #[.int .i64 k, .int .i64 s, .int .i64 m] (World.drewN w q) fun e w' => e = .returned (.int .i64 (hdr k s m)) ∧ ∃ m, w' = w.drewN m) := fun k s m w q => (header_calls _ k s m).mono fun _ _ ⟨he, e⟩ => ⟨he, q, e.symm⟩
  have HEQ := eq_arr3 a0 a1 a2 b0 b1 b2
  go_enter Try.func3, Try.ntmps3
  go_wp2_with fail
  have HKB : Hid (Keeps (fun _ => False) w ((w.alloc (.cells #[.int .i64 a0, .int .i64 a1, .int .i64 a2] 22)).alloc (.cells #[.int .i64 b0, .int .i64 b1, .int .i64 b2] 22))) := ((Keeps.refl _ w).alloc _).alloc _
  have HCA : Hid (∀ j, ((w.alloc (.cells #[.int .i64 a0, .int .i64 a1, .int .i64 a2] 22)).alloc (.cells #[.int .i64 b0, .int .i64 b1, .int .i64 b2] 22)).cell? ⟨w.heap.size, j, none⟩ = #[Value.int .i64 a0, .int .i64 a1, .int .i64 a2][j]?) := by
    intro j
    have h1 := World.cell?_alloc_new w #[.int .i64 a0, .int .i64 a1, .int .i64 a2] 22 j
    rw [← h1]
    exact World.cell?_of_block (Below.heap_alloc _ _ _ (by simp))
  have HCB : Hid (∀ j, ((w.alloc (.cells #[.int .i64 a0, .int .i64 a1, .int .i64 a2] 22)).alloc (.cells #[.int .i64 b0, .int .i64 b1, .int .i64 b2] 22)).cell? ⟨w.heap.size + 1, j, none⟩ = #[Value.int .i64 b0, .int .i64 b1, .int .i64 b2][j]?) := by
    intro j
    have h1 := World.cell?_alloc_new (w.alloc (.cells #[.int .i64 a0, .int .i64 a1, .int .i64 a2] 22)) #[.int .i64 b0, .int .i64 b1, .int .i64 b2] 22 j
    rw [show (w.alloc (.cells #[.int .i64 a0, .int .i64 a1, .int .i64 a2] 22)).heap.size = w.heap.size + 1 by simp] at h1
    exact h1
  generalize (w.alloc (.cells #[.int .i64 a0, .int .i64 a1, .int .i64 a2] 22)).alloc (.cells #[.int .i64 b0, .int .i64 b1, .int .i64 b2] 22) = wb at *
  generalize hga : w.heap.size = ga at *
  generalize hgb : ga + 1 = gb at *
  refine (HAN wb).out.mono ?_
  rintro e w0 ⟨rfl, hk0⟩
  have HK0 : Hid (Keeps (fun _ => False) w w0) := HKB.out.trans hk0 (fun _ _ h => h)
  have ca0 := hk0.cell0 (HCA.out 0)
  have ca1 := hk0.cell0 (HCA.out 1)
  have ca2 := hk0.cell0 (HCA.out 2)
  have cb0 := hk0.cell0 (HCB.out 0)
  have cb1 := hk0.cell0 (HCB.out 1)
  have cb2 := hk0.cell0 (HCB.out 2)
  replace ca0 : w0.cell? ⟨ga, 0, none⟩ = some (.int .i64 a0) := ca0
  replace ca1 : w0.cell? ⟨ga, 1, none⟩ = some (.int .i64 a1) := ca1
  replace ca2 : w0.cell? ⟨ga, 2, none⟩ = some (.int .i64 a2) := ca2
  replace cb0 : w0.cell? ⟨gb, 0, none⟩ = some (.int .i64 b0) := cb0
  replace cb1 : w0.cell? ⟨gb, 1, none⟩ = some (.int .i64 b1) := cb1
  replace cb2 : w0.cell? ⟨gb, 2, none⟩ = some (.int .i64 b2) := cb2
  have HGA := Lib.hid hga
  clear hk0 HKB HCA HCB HAN hga hgb
  go_wp2_with fail
  go_quiet ((go_at_call 9; exact HHH.out _ _ _ _ _))
  obtain ⟨w1, hw1⟩ : ∃ w1, w1 = w0.drewN nq := ⟨_, rfl⟩
  rw [← hw1]
  have hk1 : Keeps (fun _ => False) w0 w1 := by rw [hw1]; exact (Keeps.refl _ w0).drewN nq
  have HK1 : Hid (Keeps (fun _ => False) w w1) := HK0.out.trans hk1 (fun _ _ h => h)
  replace ca0 := hk1.cell0 ca0
  replace ca1 := hk1.cell0 ca1
  replace ca2 := hk1.cell0 ca2
  replace cb0 := hk1.cell0 cb0
  replace cb1 := hk1.cell0 cb1
  replace cb2 := hk1.cell0 cb2
  clear hk1 hw1 HK0
  have HOX : Hid (∀ w, Calls Try.prog 10 #[.int .i64 x] w fun e w' => (∃ p q r : Int, (e = .returned (.tuple #[.int .i64 p, .int .i64 q, .int .i64 r, .bool true]) ∧ hdr p q r = x) ∨ e = .returned (.tuple #[.int .i64 0, .int .i64 0, .int .i64 0, .bool false])) ∧ w = w') := by
    intro w
    cases hx : isHdr x with
    | true => exact (open_yes w x hx).mono fun _ _ ⟨he, e⟩ => ⟨⟨_, _, _, .inl ⟨he, (isHdr_ok hx).2⟩⟩, e⟩
    | false => exact (open_no w x hx).mono fun _ _ ⟨he, e⟩ => ⟨⟨0, 0, 0, .inr he⟩, e⟩
  have HHC := Lib.hid (fun w p q r => header_calls w p q r)
  by_cases hok : hdrOk a0 a1 a2
  · have hp := hdr_parts hok
    have HOA : Hid (∀ w, Calls Try.prog 10 #[.int .i64 (hdr a0 a1 a2)] w fun e w' => e = .returned (.tuple #[.int .i64 a0, .int .i64 a1, .int .i64 a2, .bool true]) ∧ w = w') := by
      intro w
      have := open_yes w (hdr a0 a1 a2) hp.2.2.2.1
      rw [hp.1, hp.2.1, hp.2.2.1] at this
      exact this
    have dz : (hdr a0 a1 a2 == 0) = false := beq_eq_false_iff_ne.2 hp.2.2.2.2
    have dz2 : decide (hdr a0 a1 a2 = 0) = false := decide_eq_false hp.2.2.2.2
    have dz3 : (hdr a0 a1 a2 != 0) = true := by rw [bne, dz]; rfl
    have dab := hdr_eq (k' := b0) (s' := b1) (m' := b2) hok
    have h6 := hok
    unfold hdrOk at h6
    obtain ⟨t1, t2, t3, t4, t5, t6⟩ := h6
    have s1 : decide ((1 : Int) ≤ a0) = true := decide_eq_true t1
    have s2 : decide (a0 ≤ 4) = true := decide_eq_true t2
    have s3 : decide ((0 : Int) ≤ a1) = true := decide_eq_true t3
    have s4 : decide (a1 ≤ 16447) = true := decide_eq_true (by omega)
    have s5 : decide ((0 : Int) ≤ a2) = true := decide_eq_true t5
    have s6 : decide (a2 < 65536) = true := decide_eq_true t6
    have HOK := Lib.hid hok
    clear hp hok t1 t2 t3 t4 t5 t6
    generalize hdr a0 a1 a2 = ha at *
    generalize hdr b0 b1 b2 = hb at *
    have e0 : (a0 == a0) = true := beq_self_eq_true a0
    have e1 : (a1 == a1) = true := beq_self_eq_true a1
    have e2 : (a2 == a2) = true := beq_self_eq_true a2
    generalize decide (a0 = b0 ∧ a1 = b1 ∧ a2 = b2) = bb at *
    cases bb
    all_goals
      go_wp2_with fail
      refine (HOA.out _).mono ?_
      rintro e w2 ⟨rfl, rfl⟩
      go_wp2_with fail
      refine (HOX.out _).mono ?_
      rintro e w2 ⟨⟨p, q, r, ⟨rfl, hpq⟩ | rfl⟩, rfl⟩
      · have HPQ := Lib.hid hpq
        clear hpq
        go_wp2_with fail
        refine (HHC.out _ _ _ _).mono ?_
        rintro e w2 ⟨rfl, rfl⟩
        rw [HPQ.out]
        go_wp2
        go_ret
        exact ⟨rfl, HK1.out.below (fun _ _ h => h)⟩
      · go_wp2
        go_ret
        exact ⟨rfl, HK1.out.below (fun _ _ h => h)⟩
  · rw [hdr_no hok]
    have HOA : Hid (∀ w, Calls Try.prog 10 #[.int .i64 0] w fun e w' => e = .returned (.tuple #[.int .i64 0, .int .i64 0, .int .i64 0, .bool false]) ∧ w = w') := fun w => open_no w 0 (by rfl)
    generalize hdr b0 b1 b2 = hb at *
    have h6 : a0 < 1 ∨ (1 ≤ a0 ∧ 4 < a0) ∨ (1 ≤ a0 ∧ a0 ≤ 4 ∧ a1 < 0) ∨ (1 ≤ a0 ∧ a0 ≤ 4 ∧ 0 ≤ a1 ∧ 16447 < a1) ∨ (1 ≤ a0 ∧ a0 ≤ 4 ∧ 0 ≤ a1 ∧ a1 ≤ 16447 ∧ a2 < 0) ∨ (1 ≤ a0 ∧ a0 ≤ 4 ∧ 0 ≤ a1 ∧ a1 ≤ 16447 ∧ 0 ≤ a2 ∧ 65536 ≤ a2) := by
      unfold hdrOk at hok
      omega
    clear hok
    rcases h6 with t1 | ⟨t1, t2⟩ | ⟨t1, t2, t3⟩ | ⟨t1, t2, t3, t4⟩ | ⟨t1, t2, t3, t4, t5⟩ | ⟨t1, t2, t3, t4, t5, t6⟩
    case' inl => have s1 : decide ((1 : Int) ≤ a0) = false := decide_eq_false (by omega)
    case' inr.inl =>
      have s1 : decide ((1 : Int) ≤ a0) = true := decide_eq_true t1
      have s2 : decide (a0 ≤ 4) = false := decide_eq_false (by omega)
    case' inr.inr.inl =>
      have s1 : decide ((1 : Int) ≤ a0) = true := decide_eq_true t1
      have s2 : decide (a0 ≤ 4) = true := decide_eq_true t2
      have s3 : decide ((0 : Int) ≤ a1) = false := decide_eq_false (by omega)
    case' inr.inr.inr.inl =>
      have s1 : decide ((1 : Int) ≤ a0) = true := decide_eq_true t1
      have s2 : decide (a0 ≤ 4) = true := decide_eq_true t2
      have s3 : decide ((0 : Int) ≤ a1) = true := decide_eq_true t3
      have s4 : decide (a1 ≤ 16447) = false := decide_eq_false (by omega)
    case' inr.inr.inr.inr.inl =>
      have s1 : decide ((1 : Int) ≤ a0) = true := decide_eq_true t1
      have s2 : decide (a0 ≤ 4) = true := decide_eq_true t2
      have s3 : decide ((0 : Int) ≤ a1) = true := decide_eq_true t3
      have s4 : decide (a1 ≤ 16447) = true := decide_eq_true t4
      have s5 : decide ((0 : Int) ≤ a2) = false := decide_eq_false (by omega)
    case' inr.inr.inr.inr.inr =>
      have s1 : decide ((1 : Int) ≤ a0) = true := decide_eq_true t1
      have s2 : decide (a0 ≤ 4) = true := decide_eq_true t2
      have s3 : decide ((0 : Int) ≤ a1) = true := decide_eq_true t3
      have s4 : decide (a1 ≤ 16447) = true := decide_eq_true t4
      have s5 : decide ((0 : Int) ≤ a2) = true := decide_eq_true t5
      have s6 : decide (a2 < 65536) = false := decide_eq_false (by omega)
    all_goals
      go_wp2_with fail
      refine (HOA.out _).mono ?_
      rintro e w2 ⟨rfl, rfl⟩
      go_wp2_with fail
      refine (HOX.out _).mono ?_
      rintro e w2 ⟨⟨p, q, r, ⟨rfl, hpq⟩ | rfl⟩, rfl⟩
      · have HPQ := Lib.hid hpq
        clear hpq
        go_wp2_with fail
        refine (HHC.out _ _ _ _).mono ?_
        rintro e w2 ⟨rfl, rfl⟩
        rw [HPQ.out]
        go_wp2
        go_ret
        exact ⟨rfl, HK1.out.below (fun _ _ h => h)⟩
      · go_wp2
        go_ret
        exact ⟨rfl, HK1.out.below (fun _ _ h => h)⟩
end Go.Proofs.Ytnflgjhgegggcaa
