/-
  The walks of Clip and Blocks.
-/
import Derived.Test.YtnbiofcfphpikaaW7
import Derived.Test.YtnbiofcfphpikaaSeq
import Derived.Test.YtnbiofcfphpikaaInts
namespace Go.Proofs.Ytnbiofcfphpikaa
open Go.RowKit

theorem cell_newD (w : World) (q : Nat) (u : Value) (T : TypeId) : ((w.drewN q).alloc (.cells #[u] T)).cell? ⟨w.heap.size, 0, none⟩ = some u :=
  World.cell?_alloc_new (w.drewN q) #[u] T 0

set_option maxHeartbeats 400000 in
theorem clip_calls (w : World) (a : Option Addr) (len cap : Nat) (h : len ≤ cap) (_hc : cap ≤ maxLen) :
    Calls Try.prog 78 #[.slice a len cap] w fun e w' => e = .returned (.slice a len len) ∧ w = w' := by
  unfold maxLen at _hc
  go_enter Try.func78, Try.ntmps78
  go_wp2
  go_ret
  exact ⟨rfl, rfl⟩

namespace HS
theorem spanBlocks_long {H : HS} {s : Nat} (h : H.cls s = -1) : H.spanBlocks s = [64 * s] := by unfold spanBlocks; rw [if_pos h]
theorem spanBlocks_none {H : HS} {s : Nat} (h : H.cls s ≠ -1) (h' : ¬ 0 < H.cls s) : H.spanBlocks s = [] := by unfold spanBlocks; rw [if_neg h, if_neg h']
/-- The blocks of a span up to place k. -/
def part (H : HS) (s c k : Nat) : List Nat := ((List.range k).filter fun k => (H.used s).testBit k).map fun k => 64 * s + k * c
theorem spanBlocks_class {H : HS} {s c : Nat} (h : H.cls s = (c : Int)) (hc : 0 < c) : H.spanBlocks s = H.part s c (64 / c) := by
  unfold spanBlocks part
  rw [if_neg (by omega), if_pos (by omega), h, Int.toNat_natCast]
theorem part_yes {H : HS} {s c k : Nat} (h : (H.used s).testBit k = true) : H.part s c (k + 1) = H.part s c k ++ [64 * s + k * c] := by
  unfold part; rw [List.range_succ]; simp [h]
theorem part_no {H : HS} {s c k : Nat} (h : (H.used s).testBit k = false) : H.part s c (k + 1) = H.part s c k := by
  unfold part; rw [List.range_succ]; simp [h]
theorem part_length (H : HS) (s c k : Nat) : (H.part s c k).length ≤ k := by
  unfold part
  rw [List.length_map]
  exact Nat.le_trans (List.length_filter_le _ _) (by simp)
theorem blocksTo_length (H : HS) : ∀ k, (H.blocksTo k).length ≤ 64 * k
  | 0 => by simp [blocksTo]
  | k + 1 => by
    simp only [blocksTo, List.length_append]
    have := blocksTo_length H k
    have : (H.spanBlocks k).length ≤ 64 := by
      unfold spanBlocks
      split
      · simp
      · split
        · rw [List.length_map]
          refine Nat.le_trans (List.length_filter_le _ _) ?_
          rw [List.length_range]
          exact Nat.div_le_self _ _
        · simp
    omega
end HS
def ofNats (l : List Nat) : List Int := l.map fun (n : Nat) => (n : Int)
theorem ofNats_append (a b : List Nat) : ofNats (a ++ b) = ofNats a ++ ofNats b := by simp [ofNats]
theorem ofNats_length (a : List Nat) : (ofNats a).length = a.length := by simp [ofNats]

/-- A list that a call made anew and handed back. -/
structure Made (w wr : World) (a : Option Addr) (l : List Int) : Prop where
  arg : Arg wr a l.length (fun i => .int .i64 (l.getD i 0))
  keeps : Keeps (fun _ => False) w wr
  fresh : ∀ ad : Addr, a = some ad → w.heap.size ≤ ad.block
theorem Gather.made {w wr : World} {v : Value} {l : List Int} (h : Gather w wr v l) : ∃ a cap, v = .slice a l.length cap ∧ l.length ≤ cap ∧ cap ≤ maxLen ∧ Made w wr a l := by
  rcases h.ints with ⟨e, hn⟩ | ⟨b', cap', cur, e, hg, h1, h2, h3, h4⟩
  · exact ⟨none, 0, by rw [e, hn], by omega, Nat.zero_le _, .inl hn, h.keeps, fun ad h => by cases h⟩
  · refine ⟨some ⟨b', 0, none⟩, cap', e, h1, h2, .inr ⟨b', 0, rfl, fun i hi => ?_⟩, h.keeps, fun ad h' => by cases h'; exact h.fresh b' (by rw [e]; rfl)⟩
    simp only [World.cell?, hg, Nat.zero_add]
    simpa using h4 i hi

set_option maxRecDepth 100000 in
set_option maxHeartbeats 4000000 in
theorem blocks_calls {w : World} {B : HB} {H : HS} (hA : HeapAt w B H) (hW : H.Wf) :
    Calls Try.prog 59 #[.pointer (some ⟨B.h, 0, none⟩)] w fun e w' => ∃ a cap, e = .returned (.slice a H.blocks.length cap) ∧ Hid (Made w w' a (ofNats H.blocks)) := by
  have c1 := hA.c1
  have c2 := hA.c2
  have hnb := hW.nb
  have HA := Lib.hid hA
  have HW := Lib.hid hW
  obtain ⟨i0, hi, hz0, hz1, hz2⟩ := info_parts Try.info_int
  clear hA hW
  go_enter Try.func59, Try.ntmps59
  go_wp2
  go_loopw [3, 4, 5, 6, 12, 30] (fun v _ _ _ i _ wr => ∃ s : Nat, s ≤ H.n ∧ i = .int .i64 s ∧ Hid (Gather w wr v (ofNats (H.blocksTo s)))) (fun _ _ _ _ i _ _ => H.n - (intOf i).toNat)
  case atStart => exact ⟨0, Nat.zero_le _, rfl, Gather.start w⟩
  case round =>
    obtain ⟨s, hs, rfl, hG⟩ := hrel
    have hlen : (ofNats (H.blocksTo s)).length ≤ 64 * s := by rw [ofNats_length]; exact HS.blocksTo_length H s
    have c1' := hG.out.keeps.cell0 c1
    have c2' := hG.out.keeps.cell0 c2
    by_cases hlt : s < H.n
    · have hcell := hG.out.keeps.cell0 (HA.out.cl.cell hlt)
      by_cases hl : H.cls s = -1
      · have HB : Hid (ofNats (H.blocksTo (s + 1)) = ofNats (H.blocksTo s) ++ [(s : Int) * 64]) := by
          show _ = _
          show ofNats (H.blocksTo s ++ H.spanBlocks s) = _
          rw [HS.spanBlocks_long hl, ofNats_append]
          congr 1
          simp only [ofNats, List.map_cons, List.map_nil]
          congr 1
          omega
        rw [hl] at hcell
        clear hl
        generalize ofNats (H.blocksTo s) = l at *
        go_wp2_with (at_builtin; refine wpList_app1 _ rfl _ _ 22 rfl 3 i0 (.int .i64 0) 8 Try.underlying_ints hi hz0 hz1 hz2 rfl (by decide) _ l.length _ rfl (hG.out.ints.alloc _) _ 1 (.int .i64 ((s : Int) * 64)) rfl (by simp) rfl (by omega) ?_; intro g cap w3 hO3 hK3 hg3)
        have HG := Lib.hid (hG.out.snoc hO3 hK3 hg3)
        clear hO3 hK3 hg3 hG
        go_wp2
        go_roundw
        case rel => exact ⟨s + 1, by omega, by go_num, by rw [HB.out]; exact HG.out⟩
        case measure => simp [intOf]; omega
      · have hlb : (H.cls s == -1) = false := beq_eq_false_iff_ne.2 hl
        by_cases hp : 0 < H.cls s
        · have hcl : HS.Cl (H.cls s) := by rcases HW.out.kind _ hlt with e | e | e | e <;> first | omega | exact e
          obtain ⟨c, hcc, hcl'⟩ := HS.cl_nat hcl
          have hcp := HS.cl_pos hcl'
          obtain ⟨hc1, hc2, hc3, hc4, -⟩ := hcp
          have HB : Hid (ofNats (H.blocksTo (s + 1)) = ofNats (H.blocksTo s ++ H.part s c (64 / c))) := by
            show ofNats (H.blocksTo s ++ H.spanBlocks s) = _
            rw [HS.spanBlocks_class hcc hc1]
          have HST : Hid (ofNats (H.blocksTo s) = ofNats (H.blocksTo s ++ H.part s c 0)) := by
            show _ = _
            unfold HS.part; simp
          have hp0 : decide ((0 : Int) < (c : Int)) = true := decide_eq_true (by omega)
          have hdv : ((64 : Int).tdiv (c : Int)) = ((64 / c : Nat) : Int) := by rw [Int.tdiv_eq_ediv_of_nonneg (by omega)]; norm_cast
          have hdv' : ((64 : Int) / (c : Int)) = ((64 / c : Nat) : Int) := by norm_cast
          have hz : ((c : Int) == 0) = false := beq_eq_false_iff_ne.2 (by omega)
          have hCL := Lib.hid hcl'
          have hus := Lib.hid (used_lt HW.out hlt)
          rw [hcc] at hcell hlb
          clear hl hp hcl hcc hcl'
          generalize hm : 64 / c = m at *
          clear hm
          go_wp2
          obtain ⟨wo, rfl⟩ : ∃ wo : World, wo = wr := ⟨_, rfl⟩
          go_loopw [3, 6, 30] (fun v _ k wr => ∃ j : Nat, j ≤ m ∧ k = .int .i64 j ∧ Hid (Gather w wr v (ofNats (H.blocksTo s ++ H.part s c j)))) (fun _ _ k _ => m - (intOf k).toNat)
          case atStart => exact ⟨0, Nat.zero_le _, rfl, by rw [← HST.out]; exact hG⟩
          case round =>
            clear hG hcell c1' c2'
            obtain ⟨j, hj, rfl, hG⟩ := hrel
            have hlen2 : (ofNats (H.blocksTo s ++ H.part s c j)).length ≤ 64 * s + j := by
              rw [ofNats_length, List.length_append]
              rw [ofNats_length] at hlen
              have := HS.part_length H s c j
              omega
            by_cases hjm : j < m
            · have c2' := hG.out.keeps.cell0 c2
              have hucell := hG.out.keeps.cell0 (HA.out.us.cell hlt)
              have hj64 : (j : Int) < 64 := by omega
              have hjc : (j : Int) * (c : Int) ≤ 4096 := by
                have : j * c ≤ 64 * 64 := Nat.mul_le_mul (by omega) hc2
                have h2 : ((j * c : Nat) : Int) ≤ 4096 := by omega
                simpa using h2
              have hjc0 : 0 ≤ (j : Int) * (c : Int) := Int.mul_nonneg (by omega) (by omega)
              cases hbt : (H.used s).testBit j with
              | true =>
                have hbit := bit_test hus.out (show j < 64 by omega)
                rw [hbt] at hbit
                have HB2 : Hid (ofNats (H.blocksTo s ++ H.part s c (j + 1)) = ofNats (H.blocksTo s ++ H.part s c j) ++ [(s : Int) * 64 + (j : Int) * (c : Int)]) := by
                  show _ = _
                  rw [HS.part_yes hbt, ← List.append_assoc, ofNats_append]
                  congr 1
                  simp only [ofNats, List.map_cons, List.map_nil]
                  congr 1
                  rw [Int.natCast_add, Int.natCast_mul, Int.natCast_mul]
                  omega
                clear hbt
                generalize ofNats (H.blocksTo s ++ H.part s c j) = l at *
                generalize H.used s = us at *
                go_wp2_with fail
                go_quiet (fail)
                go_wp2_with (at_builtin; refine wpList_app1 _ rfl _ _ 22 rfl 3 i0 (.int .i64 0) 8 Try.underlying_ints hi hz0 hz1 hz2 rfl (by decide) _ l.length _ rfl ((hG.out.ints.drewN _).alloc _) _ 1 (.int .i64 ((s : Int) * 64 + (j : Int) * (c : Int))) rfl (cell_newD _ _ _ _) rfl (by omega) ?_; intro g cap w3 hO3 hK3 hg3)
                have HG := Lib.hid ((hG.out.drewN _).snoc hO3 hK3 hg3)
                clear hO3 hK3 hg3 hG
                go_wp2
                go_roundw
                case rel => exact ⟨j + 1, by omega, by go_num, by rw [HB2.out]; exact HG.out⟩
                case measure => simp [intOf]; omega
              | false =>
                have hbit := bit_test hus.out (show j < 64 by omega)
                rw [hbt] at hbit
                have HB2 : Hid (ofNats (H.blocksTo s ++ H.part s c (j + 1)) = ofNats (H.blocksTo s ++ H.part s c j)) := by
                  show _ = _
                  rw [HS.part_no hbt]
                clear hbt
                generalize ofNats (H.blocksTo s ++ H.part s c j) = l at *
                generalize H.used s = us at *
                go_wp2_with fail
                go_quiet (fail)
                go_wp2
                go_roundw
                case rel => exact ⟨j + 1, by omega, by go_num, by rw [HB2.out]; exact hG.out.drewN _⟩
                case measure => simp [intOf]; omega
            · obtain rfl : j = m := by omega
              go_wp2
              go_roundw
              case rel => exact ⟨s + 1, by omega, by go_num, by rw [HB.out]; exact hG⟩
              case measure => simp [intOf]; omega
        · have hpf : decide ((0 : Int) < H.cls s) = false := decide_eq_false hp
          have HB : Hid (H.blocksTo (s + 1) = H.blocksTo s) := by
            show H.blocksTo s ++ H.spanBlocks s = _
            rw [HS.spanBlocks_none hl hp]; simp
          generalize H.cls s = cl at *
          clear hl hp
          go_wp2
          go_roundw
          case rel => exact ⟨s + 1, by omega, by go_num, by rw [HB.out]; exact hG⟩
          case measure => simp [intOf]; omega
    · obtain rfl : H.n = s := by omega
      obtain ⟨a, cap, rfl, hcap, hcm, hm⟩ := hG.out.made
      have HM := Lib.hid hm
      have HL : Hid ((ofNats (H.blocksTo H.n)).length = H.blocks.length) := ofNats_length _
      have HC := Lib.hid hcap
      have HCM := Lib.hid hcm
      clear hG hm hcap hcm hlen c1' c2'
      rw [HL.out]
      go_wp2_with fail
      refine (clip_calls _ _ _ _ (by rw [← HL.out]; exact HC.out) HCM.out).mono ?_
      rintro e w' ⟨rfl, rfl⟩
      go_wp2
      go_ret
      exact ⟨a, _, rfl, HM.out⟩
end Go.Proofs.Ytnbiofcfphpikaa
