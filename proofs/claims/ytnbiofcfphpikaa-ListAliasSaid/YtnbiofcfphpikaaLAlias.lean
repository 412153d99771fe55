/-
  ListAlias.
-/
import Derived.Test.YtnbiofcfphpikaaA14
namespace Go.Proofs.Ytnbiofcfphpikaa
open Go.RowKit

def cutOk (i j : Int) (most : Nat) : Bool := decide (0 ≤ i) && decide (i ≤ j) && decide (j ≤ (most : Int))
/-- Cut, whatever it is asked. -/
theorem lCutAny {w wr : World} {R : Nat → Prop} {sp N : Nat} {M : Mp} {held : List Int} {n F : Nat} (h : SpA w wr R sp N M held n F) {c A m most : Nat} (hs : Sl M c A 0 m most) {kd : Int} {f : Nat → Int} (ha : Ar M A most kd f) (i j : Int) (t : Bool) (ht : cutOk i j most = t) (hF : F + 1 ≤ N) (hl : held.length < 1000000) :
    Calls Try.prog 51 #[.pointer (some ⟨sp, 0, none⟩), .int .i64 c, .int .i64 i, .int .i64 j] wr fun e w' => ∃ x : Nat, e = .returned (.tuple #[.int .i64 x, .bool t]) ∧ x ≤ 1048576 ∧
      ∃ M', (t = true → M x = none ∧ Sl M' x A i.toNat (j.toNat - i.toNat) (most - i.toNat)) ∧ (∀ y, M y ≠ none → M' y = M y) ∧ Hid (SpA w w' R sp N M' held n (F + 1) ∧ Keeps (fun k => ¬ R k) wr w') := by
  unfold cutOk at ht
  cases t with
  | true =>
    simp only [Bool.and_eq_true, decide_eq_true_eq] at ht
    obtain ⟨⟨h0, h1⟩, h2⟩ := ht
    obtain ⟨I, rfl⟩ := Int.eq_ofNat_of_zero_le h0
    obtain ⟨J, rfl⟩ := Int.eq_ofNat_of_zero_le (by omega : 0 ≤ j)
    refine (lCut h hs ha (by omega) I J (by omega) (by omega) hF hl).mono ?_
    rintro e w' ⟨c2, rfl, M', hno, hs2, ho, h3⟩
    refine ⟨c2, rfl, ?_, M', fun _ => ⟨hno, ?_⟩, fun y hy => ho y (fun e => hy (e ▸ hno)), h3⟩
    · obtain ⟨B, hB, _⟩ := hs2
      exact (h3.out.1.isBlk hB).2.2.2.2
    · rw [Nat.zero_add] at hs2
      rw [Int.toNat_natCast, Int.toNat_natCast]
      exact hs2
  | false =>
    have hcase : i < 0 ∨ j < i ∨ mget M (c : Int) 3 < j := by
      rw [hs.get.2.2.2]
      by_cases h0 : 0 ≤ i
      · by_cases h1 : i ≤ j
        · by_cases h2 : j ≤ (most : Int)
          · simp [h0, h1, h2] at ht
          · omega
        · omega
      · omega
    refine (lCutNo h (c : Int) i j hcase).mono ?_
    rintro e w' ⟨rfl, q, rfl⟩
    exact ⟨0, rfl, by omega, M, (fun h => by cases h), fun _ _ => rfl, (h.drewN q).front (by omega), (Keeps.refl _ wr).drewN q⟩

theorem spansOf_leA (x : Nat) (h : x ≤ 640) : HS.spansOf x ≤ 10 ∧ 1 ≤ HS.spansOf x := by unfold HS.spansOf; split <;> omega
theorem cell_keep2 {w wr : World} (h : Keeps (fun _ => False) w wr) {b : Nat} {x y : Value} (h0 : w.cell? ⟨b, 0, none⟩ = some x ∧ w.cell? ⟨b, 1, none⟩ = some y) : wr.cell? ⟨b, 0, none⟩ = some x ∧ wr.cell? ⟨b, 1, none⟩ = some y := ⟨h.cell0 h0.1, h.cell0 h0.2⟩

set_option maxRecDepth 100000 in
set_option maxHeartbeats 8000000 in
theorem alias_bad (w : World) (m : Nat) (hm : m ≤ 100) (a0 a1 b0 b1 i v : Int)
    (hv : (cutOk a0 a1 m = false ∧ (a0 < 0 ∨ 0 ≤ a0 ∧ a1 < a0 ∨ 0 ≤ a0 ∧ a0 ≤ a1 ∧ (m : Int) < a1) ∧ (cutOk b0 b1 m = false ∧ (b0 < 0 ∨ 0 ≤ b0 ∧ b1 < b0 ∨ 0 ≤ b0 ∧ b0 ≤ b1 ∧ (m : Int) < b1) ∨ cutOk b0 b1 m = true ∧ 0 ≤ b0 ∧ b0 ≤ b1 ∧ b1 ≤ (m : Int))) ∨
      (cutOk a0 a1 m = true ∧ (0 ≤ a0 ∧ a0 ≤ a1 ∧ a1 ≤ (m : Int)) ∧ cutOk b0 b1 m = false ∧ (b0 < 0 ∨ 0 ≤ b0 ∧ b1 < b0 ∨ 0 ≤ b0 ∧ b0 ≤ b1 ∧ (m : Int) < b1))) :
    Calls Try.prog 18 #[.int .i64 m, .agg #[.int .i64 a0, .int .i64 a1], .agg #[.int .i64 b0, .int .i64 b1], .int .i64 i, .int .i64 v] w fun e w' => e = .returned (.bool true) ∧ Keeps (fun _ => False) w w' := by
  have hsz : (w.alloc (.cells #[.int .i64 a0, .int .i64 a1] 79)).heap.size = w.heap.size + 1 := by simp
  have hc1 : ((w.alloc (.cells #[.int .i64 a0, .int .i64 a1] 79)).alloc (.cells #[.int .i64 b0, .int .i64 b1] 79)).cell? ⟨w.heap.size, 0, none⟩ = some (.int .i64 a0) ∧ ((w.alloc (.cells #[.int .i64 a0, .int .i64 a1] 79)).alloc (.cells #[.int .i64 b0, .int .i64 b1] 79)).cell? ⟨w.heap.size, 1, none⟩ = some (.int .i64 a1) :=
    cell_keep2 ((Keeps.refl _ _).alloc _) ⟨World.cell?_alloc_new w #[.int .i64 a0, .int .i64 a1] _ 0, World.cell?_alloc_new w #[.int .i64 a0, .int .i64 a1] _ 1⟩
  have hc2 : ((w.alloc (.cells #[.int .i64 a0, .int .i64 a1] 79)).alloc (.cells #[.int .i64 b0, .int .i64 b1] 79)).cell? ⟨w.heap.size + 1, 0, none⟩ = some (.int .i64 b0) ∧ ((w.alloc (.cells #[.int .i64 a0, .int .i64 a1] 79)).alloc (.cells #[.int .i64 b0, .int .i64 b1] 79)).cell? ⟨w.heap.size + 1, 1, none⟩ = some (.int .i64 b1) := by
    rw [← hsz]
    exact ⟨World.cell?_alloc_new (w.alloc (.cells #[.int .i64 a0, .int .i64 a1] 79)) #[.int .i64 b0, .int .i64 b1] _ 0, World.cell?_alloc_new (w.alloc (.cells #[.int .i64 a0, .int .i64 a1] 79)) #[.int .i64 b0, .int .i64 b1] _ 1⟩
  have hkk : Keeps (fun _ => False) w ((w.alloc (.cells #[.int .i64 a0, .int .i64 a1] 79)).alloc (.cells #[.int .i64 b0, .int .i64 b1] 79)) := ((Keeps.refl _ w).alloc _).alloc _
  have HC1 := Lib.hid hc1
  have HC2 := Lib.hid hc2
  have HKK := Lib.hid hkk
  clear hsz hc1 hc2 hkk
  generalize hW : (w.alloc (.cells #[.int .i64 a0, .int .i64 a1] 79)).alloc (.cells #[.int .i64 b0, .int .i64 b1] 79) = W at *
  have HWW := Lib.hid hW
  clear hW
  have HAN := Lib.hid (anchor14_calls W)
  rw [← HWW.out] at HAN
  have HNW := Lib.hid (fun w => sNew w 8192 (by omega) (by omega))
  have d1 : decide ((m : Int) < 0) = false := decide_eq_false (by omega)
  have d2 : decide ((100 : Int) < (m : Int)) = false := decide_eq_false (by omega)
  rcases hv with ⟨ca, va, hb⟩ | ⟨ca, va, cb, vb⟩
  case' inl => rcases hb with ⟨cb, vb⟩ | ⟨cb, vb⟩
  case' inl.inl => rcases va with va | va | va <;> rcases vb with vb | vb | vb
  case' inl.inr => rcases va with va | va | va
  case' inr => rcases vb with vb | vb | vb
  all_goals
    have HCA := Lib.hid ca
    have HCB := Lib.hid cb
    clear ca cb
    go_enter Try.func18, Try.ntmps18
    go_wp2_with fail
    refine HAN.out.mono ?_
    rintro e w0 ⟨rfl, hk0⟩
    rw [HWW.out] at hk0
    have HK0 := Lib.hid hk0
    clear hk0
    go_wp2_with fail
    refine (HNW.out w0).mono ?_
    rintro e w1 ⟨sp, rfl, h1⟩
    have H1 := Lib.hid (lNew h1.out m false (by omega) (by have := spansOf_leA (m + 1) (by omega); omega) (by simp))
    clear h1
    go_wp2_with fail
    refine H1.out.mono ?_
    rintro e w2 ⟨c, rfl, A, M1, -, -, -, hs, ha, -, h2⟩
    have hadr : c ≤ 1048576 := by obtain ⟨B, hB, _⟩ := hs; exact (h2.out.1.isBlk hB).2.2.2.2
    have H2 := Lib.hid (sHold h2.out.1 (c : Int) (wf_addr hadr) (by simp))
    have HSL := Lib.hid hs
    have HA := Lib.hid ha
    have HFF : Hid (HS.spansOf (m + 1) ≤ 10) := (spansOf_leA (m + 1) (by omega)).1
    clear h2 hs ha H1 hadr
    go_wp2_with fail
    refine H2.out.mono ?_
    rintro e w3 ⟨rfl, h3⟩
    have hcc := cell_keep2 (HK0.out.trans h3.out.1.keeps (fun _ _ h => h)) HC1.out
    have e0 := hcc.1
    have e1 := hcc.2
    have H3 := Lib.hid (lCutAny h3.out.1 HSL.out HA.out a0 a1 _ HCA.out (by have := HFF.out; omega) (by simp))
    clear h3 hcc H2
    go_wp2_with fail
    refine H3.out.mono ?_
    rintro e w4 ⟨x, rfl, hx, M2, hs2, ho2, h4⟩
    have H4 := Lib.hid (sHold h4.out.1 (x : Int) (wf_addr hx) (by simp))
    have hs' := HSL.out.other (ho2 c (by obtain ⟨B, hB, _⟩ := HSL.out; rw [hB]; simp))
    have ha' := HA.out.other (ho2 A (by obtain ⟨B, hB, _⟩ := HA.out; rw [hB]; simp))
    have HS2 := Lib.hid hs'
    have HA2 := Lib.hid ha'
    clear e0 e1 h4 hs' ha' ho2 hs2 H3 hx
    go_wp2_with fail
    refine H4.out.mono ?_
    rintro e w5 ⟨rfl, h5⟩
    have hcc := cell_keep2 (HK0.out.trans h5.out.1.keeps (fun _ _ h => h)) HC2.out
    have e0 := hcc.1
    have e1 := hcc.2
    have H5 := Lib.hid (lCutAny h5.out.1 HS2.out HA2.out b0 b1 _ HCB.out (by have := HFF.out; omega) (by simp))
    clear h5 hcc H4
    go_wp2_with fail
    refine H5.out.mono ?_
    rintro e w6 ⟨y, rfl, hy, M3, hs3, ho3, h6⟩
    have hK6 := HK0.out.trans h6.out.1.keeps (fun _ _ h => h)
    have hcc := cell_keep2 hK6 HC1.out
    have hcc2 := cell_keep2 hK6 HC2.out
    have HKF := Lib.hid (HKK.out.trans hK6 (fun _ _ h => h))
    clear e0 e1
    have e0 := hcc.1
    have e1 := hcc.2
    have e2 := hcc2.1
    have e3 := hcc2.2
    have q0 : decide (0 ≤ a0) = decide (0 ≤ a0) := rfl
    clear hcc hcc2 h6 hs3 ho3 hy hK6 H5
    go_wp2
    go_ret
    exact ⟨rfl, HKF.out⟩
end Go.Proofs.Ytnbiofcfphpikaa
