/-
  SpaceHeads: the walk.
-/
import Derived.Test.YtnbiofcfphpikaaHeads
import Derived.Test.YtnbiofcfphpikaaA12
import Derived.Test.YtnbiofcfphpikaaMTwo
import Derived.Deep.DeepCutAuto
import Derived.Deep.CutBlock
namespace Go.Proofs.Ytnbiofcfphpikaa
open Go.RowKit

theorem info_arr3 : (Try.prog.info? 34).map (fun i => (i.zero, i.size, i.bytes)) = some (some (.agg #[.int .i64 0, .int .i64 0, .int .i64 0]), 3, 24) := by kernel_rfl
theorem ShS.next0 {w wr : World} {sp : Nat} {av wv : Value} {j : Nat} (h : ShS w wr sp av wv j) : ShS w wr sp av wv (j + 1) := by
  obtain ⟨M, l, F, xs, h1, h2, h3⟩ := h
  exact ⟨M, l, F, xs, h1, by omega, by omega⟩
theorem Ints.shapeV {w : World} {v : Value} {l : List Int} (h : Ints w v l) : ∃ a c, v = .slice a l.length c := by
  rcases h with ⟨rfl, h0⟩ | ⟨g, cp, cur, rfl, _⟩
  · exact ⟨none, 0, by rw [h0]⟩
  · exact ⟨_, cp, rfl⟩
theorem rowShape {w : World} {B n : Nat} {T : TypeId} {v : Value} {ys : List Value} (h : w.ownsRow B T 3 v n ys) : ∃ a c, v = .slice a n c := by
  rcases h.2 with ⟨rfl, rfl⟩ | ⟨g, cp, cur, rfl, _⟩
  · exact ⟨none, 0, rfl⟩
  · exact ⟨_, cp, rfl⟩
theorem rowCells {w : World} {B n c : Nat} {T : TypeId} {a : Option Addr} {ys : List Value} (h : w.ownsRow B T 3 (.slice a n c) n ys) (hn : 0 < n) : ∃ g, a = some ⟨g, 0, none⟩ ∧ ∀ j u, ys[j]? = some u → w.cell? ⟨g, j, none⟩ = some u := by
  rcases id h.2 with ⟨_, h0⟩ | ⟨g, cp, cur, e, _⟩
  · omega
  · have hc := h.cells (g := g) (by rw [e]; rfl)
    refine ⟨g, by simp at e; exact e.1, fun j u hj => ?_⟩
    have := hc j u hj
    have e1 : (⟨g, 0, none⟩ : Addr).add j = ⟨g, j, none⟩ := by unfold Addr.add; split <;> simp_all
    rwa [e1] at this
theorem Ints.nth {w : World} {a : Option Addr} {n cv : Nat} {l : List Int} (h : Ints w (.slice a n cv) l) (i : Nat) (hi : i < l.length) : ∃ g, a = some ⟨g, 0, none⟩ ∧ w.cell? ⟨g, i, none⟩ = some (.int .i64 (l.getD i 0)) := by
  rcases id h with ⟨e, h0⟩ | ⟨g, cp, cur, e, hg, h1, h2⟩
  · omega
  · have hc := h.cells e i (.int .i64 (l.getD i 0)) (by rw [List.getElem?_map, List.getElem?_eq_getElem hi]; simp [List.getD_eq_getElem?_getD, List.getElem?_eq_getElem hi])
    have e1 : (⟨g, 0, none⟩ : Addr).add i = ⟨g, i, none⟩ := by unfold Addr.add; split <;> simp_all
    rw [e1] at hc
    exact ⟨g, by simp at e; exact e.1, hc⟩

set_option maxRecDepth 100000 in
set_option maxHeartbeats 20000000 in
theorem spaceHeads_calls (w : World) (a : Option Addr) (len cap : Nat) (hlen : len ≤ 40) (xs : Nat → Nat → Int) (hA : ArgK w a len 3 xs) :
    Calls Try.prog 4 #[.slice a len cap] w fun e w' => e = .returned (.bool true) ∧ Keeps (fun _ => False) w w' := by
  have HAN := Lib.hid (anchor_calls w)
  have HNW := Lib.hid (fun w => sNew w 32768 (by omega) (by omega))
  have d1 : decide ((40 : Int) < (len : Int)) = false := decide_eq_false (by omega)
  have HAR := Lib.hid hA
  clear hA
  obtain ⟨i0, hi, hz0, hz1, hz2⟩ := info_parts Try.info_int
  obtain ⟨i3, hi3, hy0, hy1, hy2⟩ := info_parts info_arr3
  go_enter Try.func4, Try.ntmps4
  go_wp2_with fail
  refine HAN.out.mono ?_
  rintro e w0 ⟨rfl, hk0⟩
  have HK0 := Lib.hid hk0
  clear hk0
  go_wp2_with fail
  refine (HNW.out w0).mono ?_
  rintro e w1 ⟨sp, rfl, h1⟩
  have HST : Hid (ShS w0 w1 sp (.slice none 0 0) (.slice none 0 0) 0) := ⟨fun _ => none, [], 1, [], ⟨h1.out.sub (fun k hk => by simp [Value.ownBlock] at hk), Ints.nil _, World.ownsRow_nil _ _ _ _, fun g hg => by simp [Value.ownBlock] at hg, fun i hi => by simp at hi⟩, by omega, by simp⟩
  clear h1 HNW HAN
  go_wp2
  obtain ⟨wo, rfl⟩ : ∃ wo : World, wo = w1 := ⟨_, rfl⟩
  go_loopw [4, 5, 30] (fun av wv i wr => ∃ t : Nat, t ≤ len ∧ i = .int .i64 t ∧ Hid (ShS w0 wr sp av wv t)) (fun _ _ i _ => len - (intOf i).toNat)
  case atStart => exact ⟨0, Nat.zero_le _, rfl, HST.out⟩
  case round =>
    clear HST
    obtain ⟨t, ht, rfl, hD⟩ := hrel
    have HKW : Hid (Keeps (fun _ => False) w wr) := by
      obtain ⟨M, l, F, ys, hS, -⟩ := hD.out
      exact HK0.out.trans hS.sa.keeps (fun _ _ h => h)
    by_cases hlt : t < len
    · have dl : decide (t < len) = true := decide_eq_true hlt
      obtain ⟨ab, ao, rfl, hcell⟩ := (HAR.out.keep HKW.out).get hlt
      have hc0 := hcell 0 (by omega)
      have hc1 := hcell 1 (by omega)
      have hc2 := hcell 2 (by omega)
      rw [Nat.add_zero] at hc0
      clear hcell
      generalize xs t 0 = x0 at *
      generalize xs t 1 = x1 at *
      generalize xs t 2 = x2 at *
      have hq0 : (wr.alloc (.cells #[.int .i64 x0, .int .i64 x1, .int .i64 x2] 34)).cell? ⟨wr.heap.size, 0, none⟩ = some (.int .i64 x0) := World.cell?_alloc_new wr #[.int .i64 x0, .int .i64 x1, .int .i64 x2] _ 0
      have hq1 : (wr.alloc (.cells #[.int .i64 x0, .int .i64 x1, .int .i64 x2] 34)).cell? ⟨wr.heap.size, 1, none⟩ = some (.int .i64 x1) := World.cell?_alloc_new wr #[.int .i64 x0, .int .i64 x1, .int .i64 x2] _ 1
      have hq2 : (wr.alloc (.cells #[.int .i64 x0, .int .i64 x1, .int .i64 x2] 34)).cell? ⟨wr.heap.size, 2, none⟩ = some (.int .i64 x2) := World.cell?_alloc_new wr #[.int .i64 x0, .int .i64 x1, .int .i64 x2] _ 2
      by_cases hbig : 500 < x1 ∧ x1 ≤ 16447
      · as_aux_lemma =>
        have e1 : decide ((500 : Int) < x1) = true := decide_eq_true hbig.1
        have e2 : decide (x1 ≤ 16447) = true := decide_eq_true hbig.2
        go_wp2
        go_ret
        exact ⟨rfl, HKW.out.alloc _⟩
      · by_cases hfit : hdrOk x0 x1 x2
        · obtain ⟨f1, f2, f3, f4, f5, f6⟩ := hfit
          have e1 : decide ((500 : Int) < x1) = false := decide_eq_false (by omega)
          have k1 : decide ((1 : Int) ≤ x0) = true := decide_eq_true (by omega)
          have k2 : decide (x0 ≤ 4) = true := decide_eq_true (by omega)
          have k3 : decide ((0 : Int) ≤ x1) = true := decide_eq_true (by omega)
          have k4 : decide (x1 ≤ 16447) = true := decide_eq_true (by omega)
          have k5 : decide ((0 : Int) ≤ x2) = true := decide_eq_true (by omega)
          have k6 : decide (x2 ≤ 65535) = true := decide_eq_true (by omega)
          obtain ⟨M, l, F, ys, hS, hF, hll⟩ := hD.out
          have HB := Lib.hid (hS.boxed x0 x1 x2 34)
          have HBL := Lib.hid hS.bl
          have HAQ : Hid (∀ k, _ = some k → k < wr.heap.size) := Own.lt hS.ia
          clear hS hD
          have HSP : HS.spansOf (x1.toNat + 1) ≤ 8 := by unfold HS.spansOf; split <;> omega
          obtain ⟨s, rfl⟩ : ∃ s : Nat, x1 = s := ⟨x1.toNat, by omega⟩
          rw [Int.toNat_natCast] at HSP
          have H1 := Lib.hid (sMake HB.out.sa x0 x2 s ⟨f1, f2, f3, f4, f5, f6⟩ (by omega))
          have HSPH := Lib.hid HSP
          clear HSP
          go_wp2_with fail
          refine H1.out.mono ?_
          rintro e w3 ⟨ad, rfl, hM, h3⟩
          have HB3 := Lib.hid (HB.out.to h3.out.1 h3.out.2)
          have had := (h3.out.1.isBlk (setf_same _ _ _)).2.2.2.2
          have H2 := Lib.hid (sHold HB3.out.sa (ad : Int) (wf_addr had) (by rw [ofNats_length]; omega))
          have HM := Lib.hid hM
          clear H1 HB h3 hq0 hq1 hq2 had hM
          go_wp2_with fail
          refine H2.out.mono ?_
          rintro e w4 ⟨rfl, h4⟩
          have HB4 := Lib.hid (HB3.out.to h4.out.1 h4.out.2)
          have HS3 := Lib.hid HB4.out.st
          have c0 := HB4.out.q0
          have c1 := HB4.out.q1
          have c2 := HB4.out.q2
          have HQ := Lib.hid HB4.out.qlt
          have HBASE : Hid (w0.heap.size ≤ w4.heap.size) := HB4.out.sa.keeps.size
          have HLA : Hid (l.length ≤ 40) := by show _ ≤ _; omega
          clear H2 HB3 h4
          go_wp2
          have cd0 : w4.drew.cell? ⟨wr.heap.size, 0, none⟩ = some (.int .i64 x0) := c0
          have cd1 : w4.drew.cell? ⟨wr.heap.size, 1, none⟩ = some (.int .i64 (s : Int)) := c1
          have cd2 : w4.drew.cell? ⟨wr.heap.size, 2, none⟩ = some (.int .i64 x2) := c2
          have ca0 : ∀ o, (w4.alloc o).drew.cell? ⟨wr.heap.size, 0, none⟩ = some (.int .i64 x0) := fun o => ((Keeps.refl (fun _ => False) w4).alloc o).cell0 c0
          have ca1 : ∀ o, (w4.alloc o).drew.cell? ⟨wr.heap.size, 1, none⟩ = some (.int .i64 (s : Int)) := fun o => ((Keeps.refl (fun _ => False) w4).alloc o).cell0 c1
          have ca2 : ∀ o, (w4.alloc o).drew.cell? ⟨wr.heap.size, 2, none⟩ = some (.int .i64 x2) := fun o => ((Keeps.refl (fun _ => False) w4).alloc o).cell0 c2
          go_region_law (
            first
            | (refine step_stA hi hz0 hz1 hz2 rfl (.tmp 96) (.tmp 98) rfl (by first | exact HSW.out | exact HSW.out.alloc _ | exact HSW.out.drew | exact (HSW.out.alloc _).drew | exact ((HSW.out.alloc _).alloc _) | exact ((HSW.out.alloc _).alloc _).drew | exact HS3.out | exact HS3.out.alloc _ | exact HS3.out.drew | exact (HS3.out.alloc _).drew | exact ((HS3.out.alloc _).alloc _) | exact ((HS3.out.alloc _).alloc _).drew) rfl _ 1 (ad : Int) rfl (by first | exact World.cell?_alloc_new _ _ _ 0 | assumption | exact (show ((w4.alloc (.cells #[.int .i64 x0, .int .i64 (s : Int), .int .i64 x2] 34)).alloc (.cells #[.int .i64 (ad : Int)] 3)).drew.cell? ⟨w4.heap.size + 1, 0, none⟩ = some (.int .i64 (ad : Int)) from (by first | (simp; done) | (have := World.cell?_alloc_new (w4.alloc (.cells #[.int .i64 x0, .int .i64 (s : Int), .int .i64 x2] 34)) #[.int .i64 (ad : Int)] 3 0; simpa using this))) | exact ((Keeps.refl (fun _ => False) (w4.alloc (.cells #[.int .i64 (ad : Int)] 3))).alloc _).cell0 (World.cell?_alloc_new w4 #[.int .i64 (ad : Int)] 3 0)) (by rw [ofNats_length]; omega) ?_
               intro gA capA w6 hS5 hK5
               have HSA := Lib.hid hS5
               have HKA := Lib.hid hK5
               clear hS5 hK5
               try (have r0 : w6.cell? ⟨wr.heap.size, 0, none⟩ = some (.int .i64 x0) := HKA.out.cell (by first | exact c0 | exact ((Keeps.refl (fun _ => False) w4).alloc _).cell0 c0 | exact (((Keeps.refl (fun _ => False) w4).alloc _).alloc _).cell0 c0) (fun h => absurd (HAQ.out _ h) (Nat.lt_irrefl _)))
               try (have r1 : w6.cell? ⟨wr.heap.size, 1, none⟩ = some (.int .i64 (s : Int)) := HKA.out.cell (by first | exact c1 | exact ((Keeps.refl (fun _ => False) w4).alloc _).cell0 c1 | exact (((Keeps.refl (fun _ => False) w4).alloc _).alloc _).cell0 c1) (fun h => absurd (HAQ.out _ h) (Nat.lt_irrefl _)))
               try (have r2 : w6.cell? ⟨wr.heap.size, 2, none⟩ = some (.int .i64 x2) := HKA.out.cell (by first | exact c2 | exact ((Keeps.refl (fun _ => False) w4).alloc _).cell0 c2 | exact (((Keeps.refl (fun _ => False) w4).alloc _).alloc _).cell0 c2) (fun h => absurd (HAQ.out _ h) (Nat.lt_irrefl _)))
               try (have p0 : w6.cell? ⟨w4.heap.size, 0, none⟩ = some (.int .i64 x0) := HKA.out.cell (show ((w4.alloc (.cells #[.int .i64 x0, .int .i64 (s : Int), .int .i64 x2] 34)).alloc (.cells #[.int .i64 (ad : Int)] 3)).drew.cell? ⟨w4.heap.size, 0, none⟩ = some (.int .i64 x0) from ((Keeps.refl (fun _ => False) _).alloc _).cell0 (World.cell?_alloc_new w4 #[.int .i64 x0, .int .i64 (s : Int), .int .i64 x2] 34 0)) (fun h => absurd (HS3.out.aLt _ h) (Nat.lt_irrefl _)))
               try (have o0 : w6.cell? ⟨w4.heap.size + 1, 0, none⟩ = some (.int .i64 x0) := HKA.out.cell (show ((w4.alloc (.cells #[.int .i64 (ad : Int)] 3)).alloc (.cells #[.int .i64 x0, .int .i64 (s : Int), .int .i64 x2] 34)).drew.cell? ⟨w4.heap.size + 1, 0, none⟩ = some (.int .i64 x0) from by
                 first
                 | (simp; done)
                 | (have := World.cell?_alloc_new (w4.alloc (.cells #[.int .i64 (ad : Int)] 3)) #[.int .i64 x0, .int .i64 (s : Int), .int .i64 x2] 34 0; simpa using this)) (fun h => absurd (HS3.out.aLt _ h) (Nat.not_lt_of_le (Nat.le_succ _))))
               try (have p1 : w6.cell? ⟨w4.heap.size, 1, none⟩ = some (.int .i64 (s : Int)) := HKA.out.cell (show ((w4.alloc (.cells #[.int .i64 x0, .int .i64 (s : Int), .int .i64 x2] 34)).alloc (.cells #[.int .i64 (ad : Int)] 3)).drew.cell? ⟨w4.heap.size, 1, none⟩ = some (.int .i64 (s : Int)) from ((Keeps.refl (fun _ => False) _).alloc _).cell0 (World.cell?_alloc_new w4 #[.int .i64 x0, .int .i64 (s : Int), .int .i64 x2] 34 1)) (fun h => absurd (HS3.out.aLt _ h) (Nat.lt_irrefl _)))
               try (have o1 : w6.cell? ⟨w4.heap.size + 1, 1, none⟩ = some (.int .i64 (s : Int)) := HKA.out.cell (show ((w4.alloc (.cells #[.int .i64 (ad : Int)] 3)).alloc (.cells #[.int .i64 x0, .int .i64 (s : Int), .int .i64 x2] 34)).drew.cell? ⟨w4.heap.size + 1, 1, none⟩ = some (.int .i64 (s : Int)) from by
                 first
                 | (simp; done)
                 | (have := World.cell?_alloc_new (w4.alloc (.cells #[.int .i64 (ad : Int)] 3)) #[.int .i64 x0, .int .i64 (s : Int), .int .i64 x2] 34 1; simpa using this)) (fun h => absurd (HS3.out.aLt _ h) (Nat.not_lt_of_le (Nat.le_succ _))))
               try (have p2 : w6.cell? ⟨w4.heap.size, 2, none⟩ = some (.int .i64 x2) := HKA.out.cell (show ((w4.alloc (.cells #[.int .i64 x0, .int .i64 (s : Int), .int .i64 x2] 34)).alloc (.cells #[.int .i64 (ad : Int)] 3)).drew.cell? ⟨w4.heap.size, 2, none⟩ = some (.int .i64 x2) from ((Keeps.refl (fun _ => False) _).alloc _).cell0 (World.cell?_alloc_new w4 #[.int .i64 x0, .int .i64 (s : Int), .int .i64 x2] 34 2)) (fun h => absurd (HS3.out.aLt _ h) (Nat.lt_irrefl _)))
               try (have o2 : w6.cell? ⟨w4.heap.size + 1, 2, none⟩ = some (.int .i64 x2) := HKA.out.cell (show ((w4.alloc (.cells #[.int .i64 (ad : Int)] 3)).alloc (.cells #[.int .i64 x0, .int .i64 (s : Int), .int .i64 x2] 34)).drew.cell? ⟨w4.heap.size + 1, 2, none⟩ = some (.int .i64 x2) from by
                 first
                 | (simp; done)
                 | (have := World.cell?_alloc_new (w4.alloc (.cells #[.int .i64 (ad : Int)] 3)) #[.int .i64 x0, .int .i64 (s : Int), .int .i64 x2] 34 2; simpa using this)) (fun h => absurd (HS3.out.aLt _ h) (Nat.not_lt_of_le (Nat.le_succ _)))))
            | (refine step_stW Try.underlying33 hi3 hy0 hy1 hy2 rfl rfl (.tmp 100) (.tmp 102) rfl (by first | exact HSA.out | exact HSA.out.alloc _ | exact HSA.out.drew | exact (HSA.out.alloc _).drew | exact ((HSA.out.alloc _).alloc _) | exact ((HSA.out.alloc _).alloc _).drew | exact HS3.out | exact HS3.out.alloc _ | exact HS3.out.drew | exact (HS3.out.alloc _).drew | exact ((HS3.out.alloc _).alloc _) | exact ((HS3.out.alloc _).alloc _).drew) rfl _ 1 x0 (s : Int) x2 rfl (by first | exact World.cell?_alloc_new _ #[.int .i64 x0, .int .i64 (s : Int), .int .i64 x2] _ 0 | assumption | exact (show ((w4.alloc (.cells #[.int .i64 (ad : Int)] 3)).alloc (.cells #[.int .i64 x0, .int .i64 (s : Int), .int .i64 x2] 34)).drew.cell? ⟨w4.heap.size + 1, 0, none⟩ = some (.int .i64 x0) from (by first | (simp; done) | (have := World.cell?_alloc_new (w4.alloc (.cells #[.int .i64 (ad : Int)] 3)) #[.int .i64 x0, .int .i64 (s : Int), .int .i64 x2] 34 0; simpa using this))) | exact ((Keeps.refl (fun _ => False) (w4.alloc (.cells #[.int .i64 x0, .int .i64 (s : Int), .int .i64 x2] 34))).alloc _).cell0 (World.cell?_alloc_new w4 #[.int .i64 x0, .int .i64 (s : Int), .int .i64 x2] 34 0)) (by first | exact World.cell?_alloc_new _ #[.int .i64 x0, .int .i64 (s : Int), .int .i64 x2] _ 1 | assumption | exact (show ((w4.alloc (.cells #[.int .i64 (ad : Int)] 3)).alloc (.cells #[.int .i64 x0, .int .i64 (s : Int), .int .i64 x2] 34)).drew.cell? ⟨w4.heap.size + 1, 1, none⟩ = some (.int .i64 (s : Int)) from (by first | (simp; done) | (have := World.cell?_alloc_new (w4.alloc (.cells #[.int .i64 (ad : Int)] 3)) #[.int .i64 x0, .int .i64 (s : Int), .int .i64 x2] 34 1; simpa using this))) | exact ((Keeps.refl (fun _ => False) (w4.alloc (.cells #[.int .i64 x0, .int .i64 (s : Int), .int .i64 x2] 34))).alloc _).cell0 (World.cell?_alloc_new w4 #[.int .i64 x0, .int .i64 (s : Int), .int .i64 x2] 34 1)) (by first | exact World.cell?_alloc_new _ #[.int .i64 x0, .int .i64 (s : Int), .int .i64 x2] _ 2 | assumption | exact (show ((w4.alloc (.cells #[.int .i64 (ad : Int)] 3)).alloc (.cells #[.int .i64 x0, .int .i64 (s : Int), .int .i64 x2] 34)).drew.cell? ⟨w4.heap.size + 1, 2, none⟩ = some (.int .i64 x2) from (by first | (simp; done) | (have := World.cell?_alloc_new (w4.alloc (.cells #[.int .i64 (ad : Int)] 3)) #[.int .i64 x0, .int .i64 (s : Int), .int .i64 x2] 34 2; simpa using this))) | exact ((Keeps.refl (fun _ => False) (w4.alloc (.cells #[.int .i64 x0, .int .i64 (s : Int), .int .i64 x2] 34))).alloc _).cell0 (World.cell?_alloc_new w4 #[.int .i64 x0, .int .i64 (s : Int), .int .i64 x2] 34 2)) (by omega) HBASE.out ?_
               intro gW capW w6 hS5 hK5
               have HSW := Lib.hid hS5
               have HKW := Lib.hid hK5
               clear hS5 hK5
               try (have p3 : w6.cell? ⟨w4.heap.size, 0, none⟩ = some (.int .i64 (ad : Int)) := HKW.out.cell (show ((w4.alloc (.cells #[.int .i64 (ad : Int)] 3)).alloc (.cells #[.int .i64 x0, .int .i64 (s : Int), .int .i64 x2] 34)).drew.cell? ⟨w4.heap.size, 0, none⟩ = some (.int .i64 (ad : Int)) from ((Keeps.refl (fun _ => False) _).alloc _).cell0 (World.cell?_alloc_new w4 #[.int .i64 (ad : Int)] 3 0)) (fun h => absurd (HS3.out.wLt _ h) (Nat.lt_irrefl _)))
               try (have o3 : w6.cell? ⟨w4.heap.size + 1, 0, none⟩ = some (.int .i64 (ad : Int)) := HKW.out.cell (show ((w4.alloc (.cells #[.int .i64 x0, .int .i64 (s : Int), .int .i64 x2] 34)).alloc (.cells #[.int .i64 (ad : Int)] 3)).drew.cell? ⟨w4.heap.size + 1, 0, none⟩ = some (.int .i64 (ad : Int)) from by
                 first
                 | (simp; done)
                 | (have := World.cell?_alloc_new (w4.alloc (.cells #[.int .i64 x0, .int .i64 (s : Int), .int .i64 x2] 34)) #[.int .i64 (ad : Int)] 3 0; simpa using this)) (fun h => absurd (HS3.out.wLt _ h) (Nat.not_lt_of_le (Nat.le_succ _))))))
          all_goals
            as_aux_lemma =>
            have HSH : Hid (ShS w0 w6 sp (.slice (some ⟨gA, 0, none⟩) ((ofNats l).length + 1) capA) (.slice (some ⟨gW, 0, none⟩) (l.length + 1) capW) (t + 1)) := by
              have h8 := HSPH.out
              refine ⟨_, _, _, _, HB4.out.next HM.out HBL.out (by first | exact HSA.out | exact HSW.out), by omega, by rw [List.length_append]; simp; omega⟩
            clear HB4 HS3
            go_wp2
            go_roundw
            case rel => exact ⟨t + 1, by omega, by go_num, HSH⟩
            case measure => simp [intOf]; omega
        · obtain ⟨M, l, F, ys, hS, hF, hll⟩ := hD.out
          have HB := hS.boxed x0 x1 x2 34
          have HD2 : Hid (ShS w0 (wr.alloc (.cells #[.int .i64 x0, .int .i64 x1, .int .i64 x2] 34)) sp _ _ (t + 1)) := ⟨M, l, F, ys, HB.back hS.bl, by omega, by omega⟩
          have H1 := Lib.hid (sMakeBad HB.sa x0 x1 x2 hfit)
          clear HB hS hD
          unfold hdrOk at hfit
          by_cases a1 : x1 ≤ 500
          · as_aux_lemma =>
            by_cases b1 : x0 < 1
            · as_aux_lemma =>
              have e1 : decide ((500 : Int) < x1) = false := decide_eq_false (by omega)
              have k1 : decide ((1 : Int) ≤ x0) = false := decide_eq_false (by omega)
              go_wp2_with fail
              refine H1.out.mono ?_
              rintro e w3 ⟨rfl, rfl⟩
              go_wp2
              go_roundw
              case rel => exact ⟨t + 1, by omega, by go_num, HD2⟩
              case measure => simp [intOf]; omega
            · as_aux_lemma =>
              by_cases b2 : 4 < x0
              · as_aux_lemma =>
                have e1 : decide ((500 : Int) < x1) = false := decide_eq_false (by omega)
                have k1 : decide ((1 : Int) ≤ x0) = true := decide_eq_true (by omega)
                have k2 : decide (x0 ≤ 4) = false := decide_eq_false (by omega)
                go_wp2_with fail
                refine H1.out.mono ?_
                rintro e w3 ⟨rfl, rfl⟩
                go_wp2
                go_roundw
                case rel => exact ⟨t + 1, by omega, by go_num, HD2⟩
                case measure => simp [intOf]; omega
              · as_aux_lemma =>
                by_cases b3 : x1 < 0
                · as_aux_lemma =>
                  have e1 : decide ((500 : Int) < x1) = false := decide_eq_false (by omega)
                  have k1 : decide ((1 : Int) ≤ x0) = true := decide_eq_true (by omega)
                  have k2 : decide (x0 ≤ 4) = true := decide_eq_true (by omega)
                  have k3 : decide ((0 : Int) ≤ x1) = false := decide_eq_false (by omega)
                  go_wp2_with fail
                  refine H1.out.mono ?_
                  rintro e w3 ⟨rfl, rfl⟩
                  go_wp2
                  go_roundw
                  case rel => exact ⟨t + 1, by omega, by go_num, HD2⟩
                  case measure => simp [intOf]; omega
                · as_aux_lemma =>
                  by_cases b5 : x2 < 0
                  · as_aux_lemma =>
                    have e1 : decide ((500 : Int) < x1) = false := decide_eq_false (by omega)
                    have k1 : decide ((1 : Int) ≤ x0) = true := decide_eq_true (by omega)
                    have k2 : decide (x0 ≤ 4) = true := decide_eq_true (by omega)
                    have k3 : decide ((0 : Int) ≤ x1) = true := decide_eq_true (by omega)
                    have k4 : decide (x1 ≤ 16447) = true := decide_eq_true (by omega)
                    have k5 : decide ((0 : Int) ≤ x2) = false := decide_eq_false (by omega)
                    go_wp2_with fail
                    refine H1.out.mono ?_
                    rintro e w3 ⟨rfl, rfl⟩
                    go_wp2
                    go_roundw
                    case rel => exact ⟨t + 1, by omega, by go_num, HD2⟩
                    case measure => simp [intOf]; omega
                  · as_aux_lemma =>
                    have e1 : decide ((500 : Int) < x1) = false := decide_eq_false (by omega)
                    have k1 : decide ((1 : Int) ≤ x0) = true := decide_eq_true (by omega)
                    have k2 : decide (x0 ≤ 4) = true := decide_eq_true (by omega)
                    have k3 : decide ((0 : Int) ≤ x1) = true := decide_eq_true (by omega)
                    have k4 : decide (x1 ≤ 16447) = true := decide_eq_true (by omega)
                    have k5 : decide ((0 : Int) ≤ x2) = true := decide_eq_true (by omega)
                    have k6 : decide (x2 ≤ 65535) = false := decide_eq_false (by omega)
                    go_wp2_with fail
                    refine H1.out.mono ?_
                    rintro e w3 ⟨rfl, rfl⟩
                    go_wp2
                    go_roundw
                    case rel => exact ⟨t + 1, by omega, by go_num, HD2⟩
                    case measure => simp [intOf]; omega
          · as_aux_lemma =>
            by_cases b1 : x0 < 1
            · as_aux_lemma =>
              have e1 : decide ((500 : Int) < x1) = true := decide_eq_true (by omega)
              have k1 : decide ((1 : Int) ≤ x0) = false := decide_eq_false (by omega)
              have k4 : decide (x1 ≤ 16447) = false := decide_eq_false (by omega)
              go_wp2_with fail
              refine H1.out.mono ?_
              rintro e w3 ⟨rfl, rfl⟩
              go_wp2
              go_roundw
              case rel => exact ⟨t + 1, by omega, by go_num, HD2⟩
              case measure => simp [intOf]; omega
            · as_aux_lemma =>
              by_cases b2 : 4 < x0
              · as_aux_lemma =>
                have e1 : decide ((500 : Int) < x1) = true := decide_eq_true (by omega)
                have k1 : decide ((1 : Int) ≤ x0) = true := decide_eq_true (by omega)
                have k2 : decide (x0 ≤ 4) = false := decide_eq_false (by omega)
                have k4 : decide (x1 ≤ 16447) = false := decide_eq_false (by omega)
                go_wp2_with fail
                refine H1.out.mono ?_
                rintro e w3 ⟨rfl, rfl⟩
                go_wp2
                go_roundw
                case rel => exact ⟨t + 1, by omega, by go_num, HD2⟩
                case measure => simp [intOf]; omega
              · as_aux_lemma =>
                have e1 : decide ((500 : Int) < x1) = true := decide_eq_true (by omega)
                have k1 : decide ((1 : Int) ≤ x0) = true := decide_eq_true (by omega)
                have k2 : decide (x0 ≤ 4) = true := decide_eq_true (by omega)
                have k3 : decide ((0 : Int) ≤ x1) = true := decide_eq_true (by omega)
                have k4 : decide (x1 ≤ 16447) = false := decide_eq_false (by omega)
                go_wp2_with fail
                refine H1.out.mono ?_
                rintro e w3 ⟨rfl, rfl⟩
                go_wp2
                go_roundw
                case rel => exact ⟨t + 1, by omega, by go_num, HD2⟩
                case measure => simp [intOf]; omega
    · obtain rfl : t = len := by omega
      have dl : decide (t < t) = false := by simp
      clear HAR
      obtain ⟨M, l, F, ys, hS, hF, hll⟩ := hD.out
      obtain ⟨av, ac, rfl⟩ := hS.ia.shapeV
      obtain ⟨bv, bc, rfl⟩ := rowShape hS.iw
      rw [ofNats_length] at *
      obtain ⟨NL, hNL⟩ : ∃ NL, NL = l.length := ⟨_, rfl⟩
      have HSP : Hid (∀ wx, Keeps (fun _ => False) wr wx → SpA w0 wx (fun k => (Value.slice av NL ac).ownBlock = some k ∨ (Value.slice bv NL bc).ownBlock = some k) sp 512 M (ofNats l) 0 F ∧ Keeps (fun _ => False) w wx) := fun wx hk => ⟨by rw [hNL]; exact hS.sa.other0 hk, HKW.out.trans hk (fun _ _ h => h)⟩
      have HCA : Hid (∀ k, k < NL → ∃ g, av = some ⟨g, 0, none⟩ ∧ ∀ wx, Keeps (fun _ => False) wr wx → wx.cell? ⟨g, k, none⟩ = some (.int .i64 ((l.getD k 0 : Nat) : Int))) := by
        intro k hk
        obtain ⟨g, e, hc⟩ := hS.ia.nth k (by rw [ofNats_length]; omega)
        refine ⟨g, e, fun wx hkk => ?_⟩
        have e2 : (ofNats l).getD k 0 = ((l.getD k 0 : Nat) : Int) := by
          unfold ofNats
          simp [List.getD_eq_getElem?_getD, show k < l.length by omega]
        rw [e2] at hc
        exact hkk.cell0 hc
      have HCW : Hid (∀ k, k < NL → ∃ (g : Nat) (kk : Int) (s : Nat) (m : Int), bv = some ⟨g, 0, none⟩ ∧ M (l.getD k 0) = some ⟨kk, s, m, fun _ => 0⟩ ∧ ∀ wx, Keeps (fun _ => False) wr wx → wx.cell? ⟨g, k * 3, none⟩ = some (.int .i64 kk) ∧ wx.cell? ⟨g, k * 3 + 1, none⟩ = some (.int .i64 s) ∧ wx.cell? ⟨g, k * 3 + 2, none⟩ = some (.int .i64 m)) := by
        intro k hk
        obtain ⟨kk, s, m, h1, h2, h3, h4⟩ := hS.bl k (by omega)
        obtain ⟨g, e, hc⟩ := rowCells hS.iw (by omega)
        refine ⟨g, kk, s, m, e, h1, fun wx hkk => ⟨hkk.cell0 (hc _ _ ?_), hkk.cell0 (hc _ _ ?_), hkk.cell0 (hc _ _ ?_)⟩⟩
        · rw [show k * 3 = 3 * k by omega]; exact h2
        · rw [show k * 3 + 1 = 3 * k + 1 by omega]; exact h3
        · rw [show k * 3 + 2 = 3 * k + 2 by omega]; exact h4
      have HNL : Hid (NL ≤ 40) := by show _ ≤ _; omega
      have HM1 : Hid (M 1 = none) := by
        show _ = _
        cases hb : M 1 with
        | none => rfl
        | some B => have := (hS.sa.isBlk hb).1; omega
      have HKR : Hid (Keeps (fun _ => False) wr wr) := Keeps.refl _ _
      rw [← hNL] at *
      clear hS hD hF hll hNL
      go_wp2
      obtain ⟨wo2, rfl⟩ : ∃ wo : World, wo = wr := ⟨_, rfl⟩
      go_loopw [107] (fun i wx => ∃ k : Nat, k ≤ NL ∧ i = .int .i64 k ∧ Hid (Keeps (fun _ => False) wo2 wx)) (fun i _ => NL - (intOf i).toNat)
      case atStart => exact ⟨0, Nat.zero_le _, rfl, HKR.out⟩
      case round =>
        obtain ⟨k, hk, rfl, hK⟩ := hrel
        by_cases hlt2 : k < NL
        · have dk : decide (k < NL) = true := decide_eq_true hlt2
          obtain ⟨ga, rfl, hca⟩ := HCA.out k hlt2
          obtain ⟨gw, kk, s, m, rfl, hMk, hcw⟩ := HCW.out k hlt2
          have hc0 := hca wr hK.out
          have hsp := HSP.out wr hK.out
          have hlk : look M ((l.getD k 0 : Nat) : Int) = some ⟨kk, s, m, fun _ => 0⟩ := by rw [look_nat]; exact hMk
          have hbs := (hsp.1.isBlk hMk).2.2.2.1
          have H1 := sHead hsp.1 ((l.getD k 0 : Nat) : Int)
          rw [hlk] at H1
          have H1' : Hid (Calls Try.prog 27 #[.pointer (some ⟨sp, 0, none⟩), .int .i64 ((l.getD k 0 : Nat) : Int)] wr fun e w' => e = .returned (.tuple #[.int .i64 kk, .int .i64 (s : Int), .int .i64 m]) ∧ ∃ q, w' = wr.drewN q) := H1
          have H2 : Hid (∀ q, Calls Try.prog 28 #[.pointer (some ⟨sp, 0, none⟩), .int .i64 ((l.getD k 0 : Nat) : Int), .int .i64 (s : Int), .int .i64 1] (wr.drewN q) fun e w' => e = .returned (.bool false) ∧ ∃ q2, w' = (wr.drewN q).drewN q2) := fun q => sSetNo (hsp.1.drewN q) _ _ _ (mcan_out hlk (.inr (Int.le_refl _)))
          have H3 : Hid (∀ q, Calls Try.prog 28 #[.pointer (some ⟨sp, 0, none⟩), .int .i64 ((l.getD k 0 : Nat) : Int), .int .i64 (-1), .int .i64 1] (wr.drewN q) fun e w' => e = .returned (.bool false) ∧ ∃ q2, w' = (wr.drewN q).drewN q2) := fun q => sSetNo (hsp.1.drewN q) _ _ _ (mcan_out hlk (.inl (by omega)))
          have HGT : Hid (∀ (j : Nat) wx, j < s → Keeps (fun _ => False) wo2 wx → Calls Try.prog 29 #[.pointer (some ⟨sp, 0, none⟩), .int .i64 ((l.getD k 0 : Nat) : Int), .int .i64 (j : Int)] wx fun e w' => e = .returned (.int .i64 0) ∧ ∃ q, w' = wx.drewN q) := by
            intro j wx hj hkx
            have := sGet (HSP.out wx hkx).1 ((l.getD k 0 : Nat) : Int) (j : Int)
            rwa [mget_at hMk j rfl hj] at this
          have hcq : ∀ q, (wr.drewN q).cell? ⟨gw, k * 3, none⟩ = some (.int .i64 kk) ∧ (wr.drewN q).cell? ⟨gw, k * 3 + 1, none⟩ = some (.int .i64 s) ∧ (wr.drewN q).cell? ⟨gw, k * 3 + 2, none⟩ = some (.int .i64 m) := fun q => hcw _ (hK.out.drewN q)
          have hcq0 := fun q => (hcq q).1
          have hcq1 := fun q => (hcq q).2.1
          have hcq2 := fun q => (hcq q).2.2
          generalize l.getD k 0 = x at *
          clear hca hcw hsp hlk H1 hMk hcq
          go_wp2_with fail
          refine H1'.out.mono ?_
          rintro e w2 ⟨rfl, q1, rfl⟩
          go_wp2_with fail
          refine (H2.out q1).mono ?_
          rintro e w2 ⟨rfl, q2, rfl⟩
          go_wp2_with fail
          refine (H3.out (q1 + q2)).mono ?_
          rintro e w2 ⟨rfl, q3, rfl⟩
          have HK5 : Hid (Keeps (fun _ => False) wo2 (wr.drewN (q1 + q2 + q3))) := hK.out.drewN _
          clear H1' H2 H3 hK hc0 hcq0 hcq1 hcq2
          go_wp2
          go_loopw [16] (fun i wx => ∃ u : Nat, u ≤ s ∧ i = .int .i64 u ∧ Hid (Keeps (fun _ => False) wo2 wx)) (fun i _ => s - (intOf i).toNat)
          case atStart => exact ⟨0, Nat.zero_le _, rfl, HK5.out⟩
          case round =>
            clear HK5
            obtain ⟨u, hu, rfl, hK⟩ := hrel
            by_cases hlt3 : u < s
            · have du : decide (u < s) = true := decide_eq_true hlt3
              have H5 := Lib.hid (HGT.out u wr hlt3 hK.out)
              go_wp2_with fail
              refine H5.out.mono ?_
              rintro e w3 ⟨rfl, q5, rfl⟩
              have HK6 : Hid (Keeps (fun _ => False) wo2 (wr.drewN q5)) := hK.out.drewN _
              clear H5 hK
              go_wp2
              go_roundw
              case rel => exact ⟨u + 1, by omega, by go_num, HK6⟩
              case measure => simp [intOf]; omega
            · have hn40 : NL ≤ 40 := HNL.out
              obtain rfl : u = s := by omega
              have du : decide (u < u) = false := by simp
              have HK6 := Lib.hid hK.out
              clear hK
              go_wp2
              go_roundw
              case rel => exact ⟨k + 1, by omega, by go_num, HK6⟩
              case measure => simp [intOf]; omega
        · obtain rfl : k = NL := by omega
          have dk : decide (k < k) = false := by simp
          have hsp := HSP.out wr hK.out
          have hlk : look M 1 = none := by
            have := look_nat M 1
            rw [HM1.out] at this
            exact this
          have H1 := sHead hsp.1 1
          rw [hlk] at H1
          have H1' : Hid (Calls Try.prog 27 #[.pointer (some ⟨sp, 0, none⟩), .int .i64 1] wr fun e w' => e = .returned (.tuple #[.int .i64 0, .int .i64 0, .int .i64 0]) ∧ ∃ q, w' = wr.drewN q) := H1
          have H2 : Hid (∀ q, Calls Try.prog 29 #[.pointer (some ⟨sp, 0, none⟩), .int .i64 1, .int .i64 0] (wr.drewN q) fun e w' => e = .returned (.int .i64 0) ∧ ∃ q2, w' = (wr.drewN q).drewN q2) := by
            intro q
            have := sGet (hsp.1.drewN q) 1 0
            rwa [mget_none hlk] at this
          have H3 : Hid (∀ q, Calls Try.prog 28 #[.pointer (some ⟨sp, 0, none⟩), .int .i64 1, .int .i64 0, .int .i64 1] (wr.drewN q) fun e w' => e = .returned (.bool false) ∧ ∃ q2, w' = (wr.drewN q).drewN q2) := fun q => sSetNo (hsp.1.drewN q) _ _ _ (mcan_none hlk _)
          have HKF := Lib.hid hsp.2
          clear hsp hlk H1 hK
          go_wp2_with fail
          refine H1'.out.mono ?_
          rintro e w2 ⟨rfl, q1, rfl⟩
          go_wp2_with fail
          refine (H2.out q1).mono ?_
          rintro e w2 ⟨rfl, q2, rfl⟩
          go_wp2_with fail
          refine (H3.out (q1 + q2)).mono ?_
          rintro e w2 ⟨rfl, q3, rfl⟩
          go_wp2
          go_ret
          exact ⟨rfl, HKF.out.drewN _⟩
end Go.Proofs.Ytnbiofcfphpikaa
