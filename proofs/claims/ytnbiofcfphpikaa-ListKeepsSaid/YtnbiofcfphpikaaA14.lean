/-
  The document's example of the slices.
-/
import Derived.Test.YtnbiofcfphpikaaList3
namespace Go.Proofs.Ytnbiofcfphpikaa
open Go.RowKit

theorem SpA.built {w wr : World} {sp N : Nat} {M : Mp} {held : List Int} {n F : Nat} (h : SpA w wr R0 sp N M held n F) (o : Obj) : SpA w (wr.alloc o) (fun k => k = wr.heap.size) sp N M held n F :=
  h.add ((Keeps.refl _ _).alloc o) (fun k hk => .inr ⟨by omega, by subst hk; simp⟩)
theorem SpA.bare {w wr : World} {R : Nat → Prop} {sp N : Nat} {M : Mp} {held : List Int} {n F : Nat} (h : SpA w wr R sp N M held n F) : SpA w wr R0 sp N M held n F := h.sub (fun _ h => h.elim)
theorem items1 (wr : World) (x : Int) (T : TypeId) : Items (wr.alloc (.cells #[.int .i64 x] T)) wr.heap.size 0 1 (fun _ => x) := by
  intro i hi
  obtain rfl : i = 0 := by omega
  exact World.cell?_alloc_new wr #[.int .i64 x] T 0
theorem items2 (wr : World) (x y : Int) (T : TypeId) : Items (wr.alloc (.cells #[.int .i64 x, .int .i64 y] T)) wr.heap.size 0 2 (fun i => if i = 0 then x else y) := by
  intro i hi
  rcases (by omega : i = 0 ∨ i = 1) with rfl | rfl
  · exact World.cell?_alloc_new wr #[.int .i64 x, .int .i64 y] T 0
  · exact World.cell?_alloc_new wr #[.int .i64 x, .int .i64 y] T 1

set_option maxRecDepth 100000 in
set_option maxHeartbeats 4000000 in
theorem anchor14_calls (w : World) : Calls Try.prog 45 #[] w fun e w' => e = .returned (.bool true) ∧ Keeps (fun _ => False) w w' := by
  have HN := Lib.hid (sNew w 1024 (by omega) (by omega))
  go_enter Try.func45, Try.ntmps45
  go_wp2_with fail
  refine HN.out.mono ?_
  rintro e w1 ⟨sp, rfl, h1⟩
  have H1 := Lib.hid (lOf (cap := 2) (h1.out.built (.cells #[.int .i64 1, .int .i64 2] 3)) rfl (items2 w1 1 2 3) false (by omega) (by rw [spansOf_one (by omega)]; omega) (by simp))
  clear h1
  go_wp2_with fail
  refine H1.out.mono ?_
  rintro e w2 ⟨c, rfl, A, M1, -, -, -, hs, ha, -, h2⟩
  have H2 := Lib.hid (lAppGrow (cap := 1) (h2.out.1.bare.built (.cells #[.int .i64 3] 3)) (Rd.of (old := pre (fun i => if i = 0 then (1 : Int) else 2) 2) hs ha (by omega) (fun j hj => by rw [Nat.zero_add])) rfl (items1 w2 3 3) false (by omega) (by omega) (by omega) (by omega) (by rw [spansOf_one (by omega), spansOf_one (by decide)]; omega) (by simp))
  clear h2 hs ha H1
  go_wp2_with fail
  refine H2.out.mono ?_
  rintro e w3 ⟨c2, rfl, A2, M2, -, -, -, hs, ha, -, h3⟩
  have H3 := Lib.hid (lAppIn (cap := 1) (h3.out.1.bare.built (.cells #[.int .i64 4] 3)) hs ha (by omega) rfl (items1 w3 4 3) false (by omega) (by decide) (by omega) (by rw [spansOf_one (by omega), spansOf_one (by decide)]; omega) (by simp))
  clear h3 hs ha H2
  go_wp2_with fail
  refine H3.out.mono ?_
  rintro e w4 ⟨c3, rfl, M3, -, hs, ha, -, h4⟩
  have H4 := Lib.hid (lCut h4.out.1 hs ha (by decide) 1 4 (by omega) (by decide) (by rw [spansOf_one (by omega), spansOf_one (by decide)]; omega) (by simp))
  have hc3 : ∀ c4, M3 c4 = none → A2 ≠ c4 := fun c4 h => ha.ne h
  have HA := Lib.hid ha
  have HC3 := Lib.hid hc3
  clear h4 hs ha H3 hc3
  go_wp2_with fail
  refine H4.out.mono ?_
  rintro e w5 ⟨c4, rfl, M4, hno, hs, ho, h5⟩
  have ha := HA.out.other (ho A2 (HC3.out c4 hno))
  have hg := hs.get
  have H5 := lSize h5.out.1 (c4 : Int)
  rw [hg.2.2.1, hg.2.2.2] at H5
  have H6 := fun q => lAt (h5.out.1.drewN q) hs ha 2 (by omega) (by decide)
  have e3 : ((4 - 1 : Nat) : Int) = 3 := by decide
  have e4 : ((grownTo 2 (2 + 1) - 1 : Nat) : Int) = 3 := by decide
  have e5 : ovr (app (pre (fun i => if i = 0 then (1 : Int) else 2) 2) 2 (fun _ => 3) 1) (0 + (2 + 1)) (fun _ => 4) 1 (0 + 1 + 2) = 4 := by decide
  rw [e3, e4] at H5
  rw [e5] at H6
  have H5' := Lib.hid H5
  have H6' := Lib.hid H6
  have HKF : Hid (∀ q, Keeps (fun _ => False) w (w5.drewN q)) := fun q => h5.out.1.keeps.drewN q
  clear h5 hs ha ho hno hg H5 H6 e3 e4 e5 HA HC3 H4
  go_wp2_with fail
  refine H5'.out.mono ?_
  rintro e w6 ⟨rfl, q, rfl⟩
  go_wp2_with fail
  refine (H6'.out q).mono ?_
  rintro e w7 ⟨rfl, q2, rfl⟩
  go_wp2
  go_ret
  exact ⟨rfl, HKF.out (q + q2)⟩
end Go.Proofs.Ytnbiofcfphpikaa
