/-
  MailTurns.
-/
import Derived.Test.YtnbiofcfphpikaaMTwo
namespace Go.Proofs.Ytnbiofcfphpikaa
open Go.RowKit

def seqL (o n : Nat) : List Int := (List.range n).map fun t => ((o + t : Nat) : Int)
theorem seqL_length (o n : Nat) : (seqL o n).length = n := by simp [seqL]
theorem seqL_snoc (o n : Nat) : seqL o (n + 1) = seqL o n ++ [((o + n : Nat) : Int)] := by unfold seqL; rw [List.range_succ, List.map_append]; rfl
theorem seqL_cons (o n : Nat) : seqL o (n + 1) = (o : Int) :: seqL (o + 1) n := by
  unfold seqL
  rw [List.range_succ_eq_map, List.map_cons, List.map_map]
  congr 1
  refine List.map_congr_left fun t _ => ?_
  show ((o + (t + 1) : Nat) : Int) = ((o + 1 + t : Nat) : Int)
  omega

def Turn (w wr : World) (sp c P ni no : Nat) : Prop := ∃ M b, SpA w wr R0 sp 32 M [] 0 2 ∧ Chan M c P 1 0 b (seqL no (ni - no)) 0

set_option maxRecDepth 100000 in
set_option maxHeartbeats 4000000 in
theorem mailTurns_calls (w : World) (P : Nat) (hP1 : 1 ≤ P) (hP2 : P ≤ 30) (a : Option Addr) (len cap : Nat) (hlen : len ≤ 100) (xs : Nat → Int) (hA : Arg w a len (fun i => .int .i64 (xs i))) :
    Calls Try.prog 8 #[.int .i64 P, .slice a len cap] w fun e w' => e = .returned (.bool true) ∧ Keeps (fun _ => False) w w' := by
  have HAN := Lib.hid (anchor15_calls w)
  have HNW := Lib.hid (fun w => sNew w 2048 (by omega) (by omega))
  have d1 : decide ((P : Int) < 1) = false := decide_eq_false (by omega)
  have d2 : decide ((30 : Int) < (P : Int)) = false := decide_eq_false (by omega)
  have d3 : decide ((100 : Int) < (len : Int)) = false := decide_eq_false (by omega)
  have HAR := Lib.hid hA
  clear hA
  go_enter Try.func8, Try.ntmps8
  go_wp2_with fail
  refine HAN.out.mono ?_
  rintro e w0 ⟨rfl, hk0⟩
  have HK0 := Lib.hid hk0
  clear hk0
  go_wp2_with fail
  refine (HNW.out w0).mono ?_
  rintro e w1 ⟨sp, rfl, h1⟩
  have hsp : HS.spansOf (4 + P + 1) = 1 := spansOf_one (by omega)
  have H1 := Lib.hid (mNew h1.out P false (by omega) (by rw [hsp]; omega))
  rw [hsp] at H1
  clear h1 HNW HAN hsp
  go_wp2_with fail
  refine H1.out.mono ?_
  rintro e w2 ⟨c, rfl, -, M1, hc1, -, h2⟩
  have HST : Hid (Turn w0 w2 sp c P 0 0) := ⟨M1, 0, h2.out.1, hc1⟩
  clear h2 hc1 H1
  go_wp2
  obtain ⟨wo, rfl⟩ : ∃ wo : World, wo = w2 := ⟨_, rfl⟩
  go_loopw [8, 9, 43] (fun n m i wr => ∃ t : Nat, t ≤ len ∧ i = .int .i64 t ∧ ∃ ni no : Nat, n = .int .i64 ni ∧ m = .int .i64 no ∧ no ≤ ni ∧ ni ≤ no + P ∧ ni ≤ 100 * t ∧ Hid (Turn w0 wr sp c P ni no)) (fun _ _ i _ => len - (intOf i).toNat)
  case atStart => exact ⟨0, Nat.zero_le _, rfl, 0, 0, rfl, rfl, by omega, by omega, by omega, HST.out⟩
  case round =>
    clear HST
    obtain ⟨t, ht, rfl, ni, no, rfl, rfl, hn1, hn2, hn3, hD⟩ := hrel
    by_cases hlt : t < len
    · have HKT : Hid (Keeps (fun _ => False) w wr) := by
        obtain ⟨M, b, hS, -⟩ := hD.out
        exact HK0.out.trans hS.keeps (fun _ _ h => h)
      obtain ⟨ab, ao, rfl, hcell⟩ := (HAR.out.keep HKT.out).get hlt
      have dt : decide (t < len) = true := decide_eq_true hlt
      generalize xs t = z at *
      clear HKT
      go_wp2
      obtain ⟨wo2, rfl⟩ : ∃ wo : World, wo = wr := ⟨_, rfl⟩
      clear hcell
      go_loopw [8, 9, 12] (fun n m i wr => ∃ k : Nat, k ≤ 100 ∧ i = .int .i64 k ∧ ∃ ni no : Nat, n = .int .i64 ni ∧ m = .int .i64 no ∧ no ≤ ni ∧ ni ≤ no + P ∧ ni ≤ 100 * t + k ∧ Hid (Turn w0 wr sp c P ni no)) (fun _ _ i _ => 100 - (intOf i).toNat)
      case atStart => exact ⟨0, Nat.zero_le _, rfl, ni, no, rfl, rfl, hn1, hn2, by omega, hD⟩
      case round =>
        clear hD hn1 hn2 hn3
        obtain ⟨k, hk, rfl, ni, no, rfl, rfl, hn1, hn2, hn3, hD⟩ := hrel
        by_cases hgo : (k : Int) < z ∧ k < 100
        · have dz : decide ((k : Int) < z) = true := decide_eq_true hgo.1
          have dk : decide ((k : Int) < 100) = true := decide_eq_true (by omega)
          have hk100 : k < 100 := hgo.2
          clear hgo
          by_cases hpar : t % 2 = 0
          · have dp : ((t : Int) % 2 == 0) = true := by simp; omega
            clear hpar
            by_cases hfull : ni - no < P
            · obtain ⟨M, b, hS, hC⟩ := hD.out
              have H1 := Lib.hid (mPush hS hC (by rw [seqL_length]; exact hfull) (ni : Int))
              have HX : Hid (∀ wy M', Chan M' c P 1 0 b (seqL no (ni - no) ++ [(ni : Int)]) 0 → SpA w0 wy R0 sp 32 M' [] 0 2 → Turn w0 wy sp c P (ni + 1) no) := by
                intro wy M' h1 h2
                refine ⟨M', b, h2, ?_⟩
                rw [show ni + 1 - no = (ni - no) + 1 by omega, seqL_snoc, show no + (ni - no) = ni by omega]
                exact h1
              clear hS hC hD
              go_wp2_with fail
              refine H1.out.mono ?_
              rintro e w5 ⟨rfl, M', hc', ho', h5⟩
              have HY := Lib.hid (HX.out _ M' hc' h5.out.1)
              clear h5 hc' ho' HX H1
              go_wp2
              go_roundw
              case rel => exact ⟨k + 1, by omega, by go_num, ni + 1, no, by go_num, rfl, by omega, by omega, by omega, HY⟩
              case measure => simp [intOf]; omega
            · have HNO : Hid (∃ q : Nat, True) := ⟨0, trivial⟩
              obtain ⟨M, b, hS, hC⟩ := hD.out
              have H1 := Lib.hid (mPushNo hS (c : Int) (ni : Int) (by rw [hC.get.2.2.1, hC.get.2.2.2, seqL_length]; omega))
              have HDD : Hid (∀ q, Turn w0 (wr.drewN q) sp c P ni no) := fun q => ⟨M, b, hS.drewN q, hC⟩
              clear hS hC hD M b HNO
              go_wp2_with fail
              refine H1.out.mono ?_
              rintro e w5 ⟨rfl, q5, rfl⟩
              have hD5 := HDD.out q5
              obtain ⟨M, b, hS, hC⟩ := hD5
              have hCT := mCount hS (c : Int)
              rw [hC.get.2.2.1, hC.get.2.2.2, seqL_length, show ((ni - no : Nat) : Int) = (ni : Int) - (no : Int) by omega] at hCT
              have HCT := Lib.hid hCT
              have HDN : Hid (∀ q, Turn w0 ((wr.drewN q5).drewN q) sp c P ni no) := fun q => ⟨M, b, hS.drewN q, hC⟩
              have dP : decide ((P : Int) < (ni : Int) - (no : Int)) = false := decide_eq_false (by omega)
              clear hS hC hCT
              go_wp2_with fail
              refine HCT.out.mono ?_
              rintro e w6 ⟨rfl, q6, rfl⟩
              go_wp2
              go_roundw
              case rel => exact ⟨t + 1, by omega, by go_num, ni, no, rfl, rfl, by omega, by omega, by omega, by first | exact HDN.out q6 | exact (World.drewN_drewN (w := wr) (n := q5) (m := q6)) ▸ HDN.out q6⟩
              case measure => simp [intOf]; omega
          · have dp : ((t : Int) % 2 == 0) = false := by simp; omega
            clear hpar
            by_cases hne : no < ni
            · obtain ⟨M, b, hS, hC⟩ := hD.out
              rw [show ni - no = (ni - (no + 1)) + 1 by omega, seqL_cons] at hC
              have H1 := Lib.hid (mShift hS hC)
              have HX : Hid (∀ wy M', Chan M' c P 1 0 ((b + 1) % P) (seqL (no + 1) (ni - (no + 1))) 0 → SpA w0 wy R0 sp 32 M' [] 0 2 → Turn w0 wy sp c P ni (no + 1)) :=
                fun wy M' h1 h2 => ⟨M', _, h2, h1⟩
              clear hS hC hD
              go_wp2_with fail
              refine H1.out.mono ?_
              rintro e w5 ⟨rfl, M', hc', ho', h5⟩
              have HY := Lib.hid (HX.out _ M' hc' h5.out.1)
              clear h5 hc' ho' HX H1
              go_wp2
              go_roundw
              case rel => exact ⟨k + 1, by omega, by go_num, ni, no + 1, rfl, by go_num, by omega, by omega, by omega, HY⟩
              case measure => simp [intOf]; omega
            · obtain ⟨M, b, hS, hC⟩ := hD.out
              have H1 := Lib.hid (mShiftNo hS (c : Int) (by rw [hC.get.2.2.1, seqL_length]; omega))
              have HDD : Hid (∀ q, Turn w0 (wr.drewN q) sp c P ni no) := fun q => ⟨M, b, hS.drewN q, hC⟩
              clear hS hC hD M b
              go_wp2_with fail
              refine H1.out.mono ?_
              rintro e w5 ⟨rfl, q5, rfl⟩
              have hD5 := HDD.out q5
              obtain ⟨M, b, hS, hC⟩ := hD5
              have hCT := mCount hS (c : Int)
              rw [hC.get.2.2.1, hC.get.2.2.2, seqL_length, show ((ni - no : Nat) : Int) = (ni : Int) - (no : Int) by omega] at hCT
              have HCT := Lib.hid hCT
              have HDN : Hid (∀ q, Turn w0 ((wr.drewN q5).drewN q) sp c P ni no) := fun q => ⟨M, b, hS.drewN q, hC⟩
              have dP : decide ((P : Int) < (ni : Int) - (no : Int)) = false := decide_eq_false (by omega)
              clear hS hC hCT
              go_wp2_with fail
              refine HCT.out.mono ?_
              rintro e w6 ⟨rfl, q6, rfl⟩
              go_wp2
              go_roundw
              case rel => exact ⟨t + 1, by omega, by go_num, ni, no, rfl, rfl, by omega, by omega, by omega, by first | exact HDN.out q6 | exact (World.drewN_drewN (w := wr) (n := q5) (m := q6)) ▸ HDN.out q6⟩
              case measure => simp [intOf]; omega
        · have dzk : decide ((k : Int) < z) = false ∨ (decide ((k : Int) < z) = true ∧ decide ((k : Int) < 100) = false) := by
            by_cases h : (k : Int) < z
            · exact .inr ⟨decide_eq_true h, decide_eq_false (by omega)⟩
            · exact .inl (decide_eq_false h)
          clear hgo
          obtain ⟨M, b, hS, hC⟩ := hD.out
          have hCT := mCount hS (c : Int)
          rw [hC.get.2.2.1, hC.get.2.2.2, seqL_length, show ((ni - no : Nat) : Int) = (ni : Int) - (no : Int) by omega] at hCT
          have HCT := Lib.hid hCT
          have HDN : Hid (∀ q, Turn w0 (wr.drewN q) sp c P ni no) := fun q => ⟨M, b, hS.drewN q, hC⟩
          have dP : decide ((P : Int) < (ni : Int) - (no : Int)) = false := decide_eq_false (by omega)
          clear hS hC hCT hD
          rcases dzk with dz | ⟨dz, dk⟩
          · go_wp2_with fail
            refine HCT.out.mono ?_
            rintro e w6 ⟨rfl, q6, rfl⟩
            go_wp2
            go_roundw
            case rel => exact ⟨t + 1, by omega, by go_num, ni, no, rfl, rfl, by omega, by omega, by omega, by first | exact HDN.out q6 | exact (World.drewN_drewN (w := wr) (n := q5) (m := q6)) ▸ HDN.out q6⟩
            case measure => simp [intOf]; omega
          · go_wp2_with fail
            refine HCT.out.mono ?_
            rintro e w6 ⟨rfl, q6, rfl⟩
            go_wp2
            go_roundw
            case rel => exact ⟨t + 1, by omega, by go_num, ni, no, rfl, rfl, by omega, by omega, by omega, by first | exact HDN.out q6 | exact (World.drewN_drewN (w := wr) (n := q5) (m := q6)) ▸ HDN.out q6⟩
            case measure => simp [intOf]; omega
    · obtain rfl : t = len := by omega
      have dt : decide (t < t) = false := by simp
      have HKT : Hid (Keeps (fun _ => False) w wr) := by
        obtain ⟨M, b, hS, -⟩ := hD.out
        exact HK0.out.trans hS.keeps (fun _ _ h => h)
      clear hD
      go_wp2
      go_ret
      exact ⟨rfl, HKT.out⟩

set_option maxRecDepth 100000 in
set_option maxHeartbeats 4000000 in
theorem mailTurns_law (n : Int) (a : Option Addr) (len cap : Nat) (xs : Nat → Int) (w : World) (hA : Arg w a len (fun i => .int .i64 (xs i))) :
    Calls Try.prog 8 #[.int .i64 n, .slice a len cap] w fun e w' => e = .returned (.bool true) ∧ Below w.heap.size w w' := by
  have HAN := Lib.hid (anchor15_calls w)
  by_cases h1 : n < 1
  · have d1 : decide (n < 1) = true := decide_eq_true h1
    clear hA
    go_enter Try.func8, Try.ntmps8
    go_wp2_with fail
    refine HAN.out.mono ?_
    rintro e w0 ⟨rfl, hk0⟩
    have HK0 := Lib.hid hk0
    clear hk0
    go_wp2
    go_ret
    exact ⟨rfl, HK0.out.below (fun _ _ h => h)⟩
  have d1 : decide (n < 1) = false := decide_eq_false h1
  by_cases h2 : (30 : Int) < n
  · have d2 : decide ((30 : Int) < n) = true := decide_eq_true h2
    clear hA
    go_enter Try.func8, Try.ntmps8
    go_wp2_with fail
    refine HAN.out.mono ?_
    rintro e w0 ⟨rfl, hk0⟩
    have HK0 := Lib.hid hk0
    clear hk0
    go_wp2
    go_ret
    exact ⟨rfl, HK0.out.below (fun _ _ h => h)⟩
  have d2 : decide ((30 : Int) < n) = false := decide_eq_false h2
  by_cases h3 : (100 : Int) < (len : Int)
  · have d3 : decide ((100 : Int) < (len : Int)) = true := decide_eq_true h3
    clear hA
    go_enter Try.func8, Try.ntmps8
    go_wp2_with fail
    refine HAN.out.mono ?_
    rintro e w0 ⟨rfl, hk0⟩
    have HK0 := Lib.hid hk0
    clear hk0
    go_wp2
    go_ret
    exact ⟨rfl, HK0.out.below (fun _ _ h => h)⟩
  have d3 : decide ((100 : Int) < (len : Int)) = false := decide_eq_false h3
  obtain ⟨N, rfl⟩ := Int.eq_ofNat_of_zero_le (by omega : 0 ≤ n)
  exact (mailTurns_calls w N (by omega) (by omega) a len cap (by omega) xs hA).mono fun e w' ⟨he, hk⟩ => ⟨he, hk.below (fun _ _ h => h)⟩
end Go.Proofs.Ytnbiofcfphpikaa
