/-
  SpaceKeeps.
-/
import Derived.Test.YtnbiofcfphpikaaTxW
import Derived.Test.YtnbiofcfphpikaaA12
namespace Go.Proofs.Ytnbiofcfphpikaa
open Go.RowKit

theorem SpA.front_at {w wr : World} {R : Nat → Prop} {sp N : Nat} {M : Mp} {held : List Int} {n F : Nat} (h : SpA w wr R sp N M held n F) {a : Nat} {b : Blk} (hb : M a = some b) : a + HS.roomOf (b.s + 1) ≤ 64 * F := by
  obtain ⟨B, hv, H, h1, h2, h3, h4, h5, h6⟩ := h
  have hr := h2.room a b hb
  rw [← hr]
  exact h3 a ((h2.some_iff a).1 (by rw [hb]; simp))
/-- A chain of c blocks. -/
structure Ck (M : Mp) (A : Nat → Nat) (c : Nat) : Prop where
  blk : ∀ i, i < c → ∃ B : Blk, M (A i) = some B ∧ B.k = 4 ∧ B.s = 3 ∧ B.m = 2 ∧ B.W 0 = (i : Int) ∧ B.W 1 = (if i = 0 then 0 else (A (i - 1) : Int)) ∧ B.W 2 = 64
  inj : ∀ i j, i < c → j < c → A i = A j → i = j
  low : ∀ i, i < c → A i + 4 ≤ 64 * 21
theorem Ck.has {M : Mp} {A : Nat → Nat} {c i : Nat} (h : Ck M A c) (hi : i < c) : M (A i) ≠ none := by
  obtain ⟨B, hB, _⟩ := h.blk i hi
  rw [hB]; simp
theorem Ck.keep {M M' : Mp} {A : Nat → Nat} {c : Nat} (h : Ck M A c) (e : ∀ i, i < c → M' (A i) = M (A i)) : Ck M' A c :=
  ⟨fun i hi => by rw [e i hi]; exact h.blk i hi, h.inj, h.low⟩
theorem Ck.live {M : Mp} {A : Nat → Nat} {c : Nat} (h : Ck M A c) (h0 : M 0 = none) (hc : 0 < c) (x : Nat) : MLive M [(A (c - 1) : Int)] x ↔ ∃ i, i < c ∧ x = A i := by
  constructor
  · intro hl
    induction hl with
    | root h1 _ => rw [List.mem_singleton] at h1; exact ⟨c - 1, by omega, by omega⟩
    | @step a y b j _ hb hj hm hw hy ih =>
      obtain ⟨i, hi, rfl⟩ := ih
      obtain ⟨B, hB, hk, hs, hmm, h00, h01, h02⟩ := h.blk i hi
      rw [hB] at hb
      cases hb
      rw [hk, hmm] at hm
      rw [hs] at hj
      have hj1 : j = 1 := by
        rcases (by omega : j = 0 ∨ j = 1 ∨ j = 2) with rfl | rfl | rfl
        · exact absurd hm (by decide)
        · rfl
        · exact absurd hm (by decide)
      subst hj1
      rw [h01] at hw
      by_cases e : i = 0
      · rw [if_pos e] at hw
        have : y = 0 := by omega
        rw [this] at hy
        exact absurd h0 hy
      · rw [if_neg e] at hw
        exact ⟨i - 1, by omega, by omega⟩
  · rintro ⟨i, hi, rfl⟩
    have key : ∀ d, d < c → MLive M [(A (c - 1) : Int)] (A (c - 1 - d)) := by
      intro d
      induction d with
      | zero => intro _; exact .root (by simp) (h.has (by omega))
      | succ d ih =>
        intro hd
        obtain ⟨B, hB, hk, hs, hmm, h00, h01, h02⟩ := h.blk (c - 1 - d) (by omega)
        refine .step (ih (by omega)) hB (j := 1) (by omega) (by rw [hk, hmm]; decide) ?_ (h.has (by omega))
        rw [h01, if_neg (by omega)]
        congr 2
    have := key (c - 1 - i) (by omega)
    rwa [show c - 1 - (c - 1 - i) = i by omega] at this
theorem Ck.swept {M : Mp} {A : Nat → Nat} {c : Nat} (h : Ck M A c) (h0 : M 0 = none) (hc : 0 < c) : Ck (mlive M [(A (c - 1) : Int)]) A c ∧ (∀ x, x ∈ (List.range c).map A ↔ mlive M [(A (c - 1) : Int)] x ≠ none) ∧ ((List.range c).map A).Nodup := by
  refine ⟨h.keep fun i hi => mlive_yes ((h.live h0 hc _).2 ⟨i, hi, rfl⟩), fun x => ?_, ?_⟩
  · rw [mlive_ne, h.live h0 hc, List.mem_map]
    constructor
    · rintro ⟨i, hi, rfl⟩; exact ⟨i, List.mem_range.1 hi, rfl⟩
    · rintro ⟨i, hi, rfl⟩; exact ⟨i, List.mem_range.2 hi, rfl⟩
  · refine List.pairwise_map.2 ?_
    exact List.Pairwise.imp_of_mem (fun {a b} ha hb hne e => hne (h.inj a b (List.mem_range.1 ha) (List.mem_range.1 hb) e)) (List.nodup_range (n := c))

def kHeld (A : Nat → Nat) (j : Nat) : List Int := if j = 0 then [] else [(A (j - 1) : Int)]
def kFirst (A : Nat → Nat) (j : Nat) : Int := if j = 0 then 0 else (A (j - 1) : Int)
/-- The first loop. -/
def Ka (w wr : World) (sp j : Nat) (first : Int) : Prop := ∃ M A, SpA w wr R0 sp 64 M (kHeld A j) 0 (1 + j) ∧ Ck M A j ∧ first = kFirst A j
/-- The second. -/
def Kb (w wr : World) (sp c t : Nat) (A : Nat → Nat) : Prop := ∃ M n, SpA w wr R0 sp 64 M [(A (c - 1) : Int)] n 64 ∧ Ck M A c ∧ n ≤ t
theorem Ck.next {M M' : Mp} {A : Nat → Nat} {j a : Nat} (h : Ck M A j) (hno : M a = none) (hlow : a + 4 ≤ 64 * 21) (e : ∀ x, x ≠ a → M' x = M x) {B : Blk} (hB : M' a = some B) (hk : B.k = 4) (hs : B.s = 3) (hm : B.m = 2) (h0 : B.W 0 = (j : Int)) (h1 : B.W 1 = kFirst A j) (h2 : B.W 2 = 64) : Ck M' (setf A j a) (j + 1) := by
  have hne : ∀ i, i < j → A i ≠ a := fun i hi e => by have := h.has hi; rw [e] at this; exact this hno
  refine ⟨fun i hi => ?_, fun i k hi hk he => ?_, fun i hi => ?_⟩
  · by_cases ei : i = j
    · subst ei
      rw [setf_same]
      refine ⟨B, hB, hk, hs, hm, h0, ?_, h2⟩
      rw [h1]
      unfold kFirst
      by_cases e0 : i = 0
      · rw [if_pos e0, if_pos e0]
      · rw [if_neg e0, if_neg e0, setf_ne _ _ (by omega)]
    · rw [setf_ne _ _ ei, e _ (hne i (by omega))]
      obtain ⟨C, hC, c1, c2, c3, c4, c5, c6⟩ := h.blk i (by omega)
      refine ⟨C, hC, c1, c2, c3, c4, ?_, c6⟩
      rw [c5]
      by_cases e0 : i = 0
      · rw [if_pos e0, if_pos e0]
      · rw [if_neg e0, if_neg e0, setf_ne _ _ (by omega)]
  · by_cases ei : i = j
    · by_cases ek : k = j
      · omega
      · subst ei
        rw [setf_same, setf_ne _ _ ek] at he
        exact absurd he.symm (hne k (by omega))
    · by_cases ek : k = j
      · subst ek
        rw [setf_same, setf_ne _ _ ei] at he
        exact absurd he (hne i (by omega))
      · rw [setf_ne _ _ ei, setf_ne _ _ ek] at he
        exact h.inj i k (by omega) (by omega) he
  · by_cases ei : i = j
    · subst ei; rw [setf_same]; exact hlow
    · rw [setf_ne _ _ ei]; exact h.low i (by omega)
theorem spansOf_ten {x : Nat} (h : x ≤ 640) : HS.spansOf x ≤ 10 := by unfold HS.spansOf; split <;> omega
theorem roomOf_four : HS.roomOf (3 + 1) = 4 := by decide

set_option maxRecDepth 100000 in
set_option maxHeartbeats 4000000 in
theorem spaceKeeps_calls (w : World) (c : Nat) (hc1 : 1 ≤ c) (hc2 : c ≤ 20) (a : Option Addr) (len cap : Nat) (hlen : len ≤ 300) (xs : Nat → Int) (hA : Arg w a len (fun i => .int .i64 (xs i))) :
    Calls Try.prog 6 #[.int .i64 c, .slice a len cap] w fun e w' => e = .returned (.bool true) ∧ Keeps (fun _ => False) w w' := by
  have HAN := Lib.hid (anchor_calls w)
  have HNW := Lib.hid (fun w => sNew w 4096 (by omega) (by omega))
  have d1 : decide ((c : Int) < 1) = false := decide_eq_false (by omega)
  have d2 : decide ((20 : Int) < (c : Int)) = false := decide_eq_false (by omega)
  have d3 : decide ((300 : Int) < (len : Int)) = false := decide_eq_false (by omega)
  have HAR := Lib.hid hA
  clear hA
  go_enter Try.func6, Try.ntmps6
  go_wp2_with fail
  refine HAN.out.mono ?_
  rintro e w0 ⟨rfl, hk0⟩
  have HK0 := Lib.hid hk0
  clear hk0
  go_wp2_with fail
  refine (HNW.out w0).mono ?_
  rintro e w1 ⟨sp, rfl, h1⟩
  have HST : Hid (Ka w0 w1 sp 0 0) := ⟨_, id, h1.out, ⟨fun i hi => by omega, fun i j hi => by omega, fun i hi => by omega⟩, rfl⟩
  clear h1 HNW HAN
  go_wp2
  obtain ⟨wo, rfl⟩ : ∃ wo : World, wo = w1 := ⟨_, rfl⟩
  go_loopw [6, 7] (fun f i wr => ∃ j : Nat, j ≤ c ∧ i = .int .i64 j ∧ ∃ ff : Int, f = .int .i64 ff ∧ Hid (Ka w0 wr sp j ff)) (fun _ i _ => c - (intOf i).toNat)
  case atStart => exact ⟨0, Nat.zero_le _, rfl, 0, rfl, HST.out⟩
  case round =>
    clear HST
    obtain ⟨j, hj, rfl, ff, rfl, hD⟩ := hrel
    by_cases hlt : j < c
    · have dl : decide (j < c) = true := decide_eq_true hlt
      obtain ⟨M, A, hS, hC, hff⟩ := hD.out
      have H1 := Lib.hid (sMake hS 4 2 3 (by unfold hdrOk; omega) (by rw [spansOf_one (by omega)]; omega))
      rw [spansOf_one (by omega)] at H1
      have HC := Lib.hid hC
      have HFF := Lib.hid hff
      clear hS hC hff hD
      go_wp2_with fail
      refine H1.out.mono ?_
      rintro e w2 ⟨x, rfl, hno, h2⟩
      have hlow := h2.out.1.front_at (setf_same _ _ _)
      rw [roomOf_four] at hlow
      have hx1 := (h2.out.1.isBlk (setf_same _ _ _)).2.2.2.2
      have e0 : setf M x (some (⟨4, 3, 2, fun _ => 0⟩ : Blk)) x = some ⟨4, 3, 2, fun _ => 0⟩ := setf_same _ _ _
      have H2 := Lib.hid (sSet h2.out.1 x 0 (j : Int) e0 (show 0 < 3 by omega))
      have H3 := Lib.hid (fun w3 (h3 : SpA w0 w3 R0 sp 64 (mset (setf M x (some ⟨4, 3, 2, fun _ => 0⟩)) x 0 (j : Int)) (kHeld A j) 0 (1 + j + 1)) => sSet h3 x 1 ff (mset_same e0) (show 1 < 3 by omega))
      have H4 := Lib.hid (fun w3 (h3 : SpA w0 w3 R0 sp 64 (mset (mset (setf M x (some ⟨4, 3, 2, fun _ => 0⟩)) x 0 (j : Int)) x 1 ff) (kHeld A j) 0 (1 + j + 1)) => sSet h3 x 2 64 (mset_same (mset_same e0)) (show 2 < 3 by omega))
      have HCN : Hid (Ck (mset (mset (mset (setf M x (some ⟨4, 3, 2, fun _ => 0⟩)) x 0 (j : Int)) x 1 ff) x 2 64) (setf A j x) (j + 1)) := by
        refine HC.out.next hno (by omega) (fun y hy => by rw [mset_ne _ _ _ hy, mset_ne _ _ _ hy, mset_ne _ _ _ hy, setf_ne _ _ hy]) (mset_same (mset_same (mset_same e0))) rfl rfl rfl ?_ ?_ ?_
        · rw [put_ne _ _ (by omega), put_ne _ _ (by omega), put_same]
        · rw [put_ne _ _ (by omega), put_same]; exact HFF.out
        · rw [put_same]
      have HWF := Lib.hid (wf_addr hx1)
      clear h2 hlow hno e0 hx1 H1 HC HFF
      go_wp2_with fail
      refine H2.out.mono ?_
      rintro e w3 ⟨rfl, h3⟩
      have H3' := Lib.hid (H3.out _ h3.out.1)
      clear h3 H3 H2
      go_wp2_with fail
      refine H3'.out.mono ?_
      rintro e w4 ⟨rfl, h4⟩
      have H4' := Lib.hid (H4.out _ h4.out.1)
      clear h4 H4 H3'
      go_wp2_with fail
      refine H4'.out.mono ?_
      rintro e w5 ⟨rfl, h5⟩
      have H5 : Hid (Calls Try.prog 24 #[.pointer (some ⟨sp, 0, none⟩), .int .i64 1] w5 fun e w' => e = .returned (.tuple #[]) ∧ Hid (SpA w0 w' R0 sp 64 (mset (mset (mset (setf M x (some ⟨4, 3, 2, fun _ => 0⟩)) x 0 (j : Int)) x 1 ff) x 2 64) [] 0 (1 + j + 1))) := by
        have h5' := h5.out.1
        unfold kHeld at h5'
        by_cases e : j = 0
        · rw [if_pos e] at h5'
          refine (sDrop0 h5' 1).mono ?_
          rintro e w' ⟨rfl, h⟩
          exact ⟨rfl, h.out.1⟩
        · rw [if_neg e] at h5'
          refine (sDrop1 (held := []) h5' (by simp)).mono ?_
          rintro e w' ⟨rfl, h⟩
          exact ⟨rfl, h.out.1⟩
      clear h5 H4'
      go_wp2_with fail
      refine H5.out.mono ?_
      rintro e w6 ⟨rfl, h6⟩
      have H6 := Lib.hid (sHold h6.out (x : Int) HWF.out (by simp))
      clear h6 H5
      go_wp2_with fail
      refine H6.out.mono ?_
      rintro e w7 ⟨rfl, h7⟩
      have HY : Hid (Ka w0 w7 sp (j + 1) (x : Int)) := by
        refine ⟨_, setf A j x, ?_, HCN.out, ?_⟩
        · unfold kHeld
          rw [if_neg (by omega), Nat.add_sub_cancel, setf_same]
          exact h7.out.1
        · unfold kFirst
          rw [if_neg (by omega), Nat.add_sub_cancel, setf_same]
      clear h7 H6 HCN
      go_wp2
      go_roundw
      case rel => exact ⟨j + 1, by omega, by go_num, x, rfl, HY⟩
      case measure => simp [intOf]; omega
    · obtain rfl : j = c := by omega
      have dl : decide (j < j) = false := by simp
      obtain ⟨M, A, hS, hC, hff⟩ := hD.out
      have HKB : Hid (Kb w0 wr sp j 0 A) := ⟨M, 0, by have := hS.front (G := 64) (by omega); unfold kHeld at this; rw [if_neg (by omega)] at this; exact this, hC, by omega⟩
      obtain ⟨B0, hB0⟩ : ∃ B0 : Nat, A (j - 1) = B0 := ⟨_, rfl⟩
      have hff2 : ff = (B0 : Int) := by rw [hff, ← hB0]; unfold kFirst; rw [if_neg (by omega)]
      subst hff2
      have HB0 := Lib.hid hB0
      clear hS hC hff hD hB0
      go_wp2
      obtain ⟨wo2, rfl⟩ : ∃ wo : World, wo = wr := ⟨_, rfl⟩
      go_loopw [78] (fun i wr => ∃ t : Nat, t ≤ len ∧ i = .int .i64 t ∧ Hid (Kb w0 wr sp j t A)) (fun i _ => len - (intOf i).toNat)
      case atStart => exact ⟨0, Nat.zero_le _, rfl, HKB.out⟩
      case round =>
        clear HKB
        obtain ⟨t, ht, rfl, hD⟩ := hrel
        by_cases hlt2 : t < len
        · have dt : decide (t < len) = true := decide_eq_true hlt2
          obtain ⟨M, n, hS, hC, hn⟩ := hD.out
          obtain ⟨ab, ao, rfl, hcell⟩ := (HAR.out.keep (HK0.out.trans hS.keeps (fun _ _ h => h))).get hlt2
          generalize xs t = z at *
          have HUP : Hid (Kb w0 wr sp j (t + 1) A) := ⟨M, n, hS, hC, by omega⟩
          by_cases hz : 0 ≤ z ∧ z < 600
          · obtain ⟨Z, rfl⟩ := Int.eq_ofNat_of_zero_le hz.1
            have dz : decide ((Z : Int) < 600) = true := decide_eq_true hz.2
            have hz2 : Z < 600 := by omega
            have H1 : Hid (Calls Try.prog 22 #[.pointer (some ⟨sp, 0, none⟩), .int .i64 2, .int .i64 Z, .int .i64 0] wr fun e w' => ∃ x : Nat, e = .returned (.tuple #[.int .i64 x, .bool true]) ∧ Hid (Kb w0 w' sp j (t + 1) A)) := by
              refine (sMakeAny hS 2 0 Z (by unfold hdrOk; omega) (by simp) (by omega)).mono ?_
              have hsw := hC.swept hS.no0 (by omega)
              rintro e w' (⟨x, M1, n1, rfl, hM, hno, h2⟩ | ⟨rfl, h2, hG⟩)
              · refine ⟨x, rfl, _, n1, h2.out.1, ?_, by rcases hM with ⟨_, h⟩ | ⟨_, h⟩ <;> omega⟩
                have hC1 : Ck M1 A j := by rcases hM with ⟨rfl, _⟩ | ⟨rfl, _⟩; exact hC; exact hsw.1
                exact hC1.keep fun i hi => setf_ne _ _ (fun e => by have := hC1.has hi; rw [e] at this; exact this hno)
              · exfalso
                have := hG 21 (by omega) (fun a b hab => by
                  have hmem := (hsw.2.1 a).2 (by rw [hab]; simp)
                  obtain ⟨i, hi, rfl⟩ := List.mem_map.1 hmem
                  have hi' := List.mem_range.1 hi
                  obtain ⟨B, hB, _, hs, _⟩ := hsw.1.blk i hi'
                  rw [hab] at hB
                  cases hB
                  rw [hs, roomOf_four]
                  exact hC.low i hi')
                have h10 := spansOf_ten (x := Z + 1) (by omega)
                omega
            clear hS hC hD HUP hz
            go_wp2_with fail
            refine H1.out.mono ?_
            rintro e w2 ⟨x, rfl, h2⟩
            clear H1 hcell
            go_wp2
            go_roundw
            case rel => exact ⟨t + 1, by omega, by go_num, h2⟩
            case measure => simp [intOf]; omega
          · have dz : decide (0 ≤ z) = false ∨ (decide (0 ≤ z) = true ∧ decide (z < 600) = false) := by
              by_cases h : 0 ≤ z
              · exact .inr ⟨decide_eq_true h, decide_eq_false (by omega)⟩
              · exact .inl (decide_eq_false h)
            clear hS hC hD hz
            rcases dz with dz | ⟨dz, dz2⟩
            all_goals
              go_wp2
              go_roundw
              case rel => exact ⟨t + 1, by omega, by go_num, HUP⟩
              case measure => simp [intOf]; omega
        · obtain rfl : t = len := by omega
          have dt : decide (t < t) = false := by simp
          go_wp2
          obtain ⟨wo3, rfl⟩ : ∃ wo : World, wo = wr := ⟨_, rfl⟩
          go_loopw [14, 15] (fun x k wr => ∃ r : Nat, r ≤ j ∧ k = .int .i64 ((r : Int) - 1) ∧ x = .int .i64 (kFirst A r) ∧ Hid (Kb w0 wr sp j t A)) (fun _ k _ => (intOf k + 1).toNat)
          case atStart => exact ⟨j, by omega, rfl, by unfold kFirst; rw [if_neg (by omega), HB0.out], hD⟩
          case round =>
            clear hD
            obtain ⟨r, hr, rfl, rfl, hD⟩ := hrel
            by_cases hr0 : 0 < r
            · have dr : decide (0 ≤ (r : Int) - 1) = true := decide_eq_true (by omega)
              have dr2 : decide (1 ≤ (r : Int)) = true := decide_eq_true (by omega)
              obtain ⟨M, n, hS, hC, hn⟩ := hD.out
              obtain ⟨B, hB, hk, hs, hm, h0, h1, h2⟩ := hC.blk (r - 1) (by omega)
              have ef : kFirst A r = (A (r - 1) : Int) := by unfold kFirst; rw [if_neg (by omega)]
              have g0 : mget M (kFirst A r) 0 = (r : Int) - 1 := by rw [ef]; exact (mget_at hB 0 rfl (by omega)).trans (by rw [h0]; omega)
              have g1 : mget M (kFirst A r) 1 = kFirst A (r - 1) := by rw [ef]; exact (mget_at hB 1 rfl (by omega)).trans h1
              have g2 : mget M (kFirst A r) 2 = 64 := by rw [ef]; exact (mget_at hB 2 rfl (by omega)).trans h2
              have G0 := sGet hS (kFirst A r) 0
              rw [g0] at G0
              have G1 := fun q => sGet (hS.drewN q) (kFirst A r) 1
              rw [g1] at G1
              have G2 := fun q => sGet (hS.drewN q) (kFirst A r) 2
              rw [g2] at G2
              have G0' := Lib.hid G0
              have G1' := Lib.hid G1
              have G2' := Lib.hid G2
              have HX : Hid (∀ q, Kb w0 (wr.drewN q) sp j t A) := fun q => ⟨M, n, hS.drewN q, hC, hn⟩
              have hr1 : (1 : Int) ≤ (r : Int) := by omega
              have er : ((r - 1 : Nat) : Int) = (r : Int) - 1 := by omega
              have HER := Lib.hid er
              clear hS hC hD hB ef g0 g1 g2 G0 G1 G2 h0 h1 h2 hk hs hm er
              generalize kFirst A r = x at *
              generalize hnx : kFirst A (r - 1) = x2 at *
              have HNX := Lib.hid hnx
              clear hnx
              go_wp2_with fail
              refine G0'.out.mono ?_
              rintro e w8 ⟨rfl, q, rfl⟩
              go_wp2_with fail
              refine (G2'.out q).mono ?_
              rintro e w9 ⟨rfl, q2, rfl⟩
              go_wp2_with fail
              refine (G1'.out (q + q2)).mono ?_
              rintro e w10 ⟨rfl, q3, rfl⟩
              go_wp2
              go_roundw
              case rel => exact ⟨r - 1, by omega, by rw [HER.out], by rw [HNX.out], HX.out (q + q2 + q3)⟩
              case measure => simp [intOf]; omega
            · obtain rfl : r = 0 := by omega
              have e0 : kFirst A 0 = 0 := rfl
              rw [e0]
              clear e0
              obtain ⟨M, n, hS, hC, hn⟩ := hD.out
              have hsw := hC.swept hS.no0 (by omega)
              have HC1 := Lib.hid (sCollect hS (by simp) (by omega))
              have HSW := Lib.hid hsw
              have hn2 : n ≤ 300 := by omega
              clear hS hC hn hsw hD
              go_wp2_with fail
              refine HC1.out.mono ?_
              rintro e w8 ⟨cc, rfl, h8⟩
              have HT := sTold h8.out.1 HSW.out.2.2 HSW.out.2.1
              rw [List.length_map, List.length_range] at HT
              have HT' := Lib.hid HT
              clear HT h8 HC1
              go_wp2_with fail
              refine HT'.out.mono ?_
              rintro e w9 ⟨f9, rfl, -, h9⟩
              have HD2 := Lib.hid (sDrop1 (held := []) h9.out.1 (by simp))
              clear h9 HT'
              go_wp2_with fail
              refine HD2.out.mono ?_
              rintro e w10 ⟨rfl, h10⟩
              have HC2 := Lib.hid (sCollect h10.out.1 (by simp) (by omega))
              clear h10 HD2
              go_wp2_with fail
              refine HC2.out.mono ?_
              rintro e w11 ⟨cc2, rfl, h11⟩
              have h11' := h11.out.1
              rw [mlive_nil] at h11'
              have HT2 := Lib.hid (sTold h11' (l := []) (by simp) (fun a => by simp))
              clear h11 h11' HC2
              go_wp2_with fail
              refine HT2.out.mono ?_
              rintro e w12 ⟨f12, rfl, hf, h12⟩
              obtain rfl : f12 = 63 := hf (fun _ => trivial)
              have HKF := Lib.hid (HK0.out.trans h12.out.1.keeps (fun _ _ h => h))
              clear h12 hf
              go_wp2
              go_ret
              exact ⟨rfl, HKF.out⟩

set_option maxRecDepth 100000 in
set_option maxHeartbeats 4000000 in
theorem spaceKeeps_law (n : Int) (a : Option Addr) (len cap : Nat) (xs : Nat → Int) (w : World) (hA : Arg w a len (fun i => .int .i64 (xs i))) :
    Calls Try.prog 6 #[.int .i64 n, .slice a len cap] w fun e w' => e = .returned (.bool true) ∧ Below w.heap.size w w' := by
  have HAN := Lib.hid (anchor_calls w)
  by_cases h1 : n < 1
  · have d1 : decide (n < 1) = true := decide_eq_true h1
    clear hA
    go_enter Try.func6, Try.ntmps6
    go_wp2_with fail
    refine HAN.out.mono ?_
    rintro e w0 ⟨rfl, hk0⟩
    have HK0 := Lib.hid hk0
    clear hk0
    go_wp2
    go_ret
    exact ⟨rfl, HK0.out.below (fun _ _ h => h)⟩
  have d1 : decide (n < 1) = false := decide_eq_false h1
  by_cases h2 : (20 : Int) < n
  · have d2 : decide ((20 : Int) < n) = true := decide_eq_true h2
    clear hA
    go_enter Try.func6, Try.ntmps6
    go_wp2_with fail
    refine HAN.out.mono ?_
    rintro e w0 ⟨rfl, hk0⟩
    have HK0 := Lib.hid hk0
    clear hk0
    go_wp2
    go_ret
    exact ⟨rfl, HK0.out.below (fun _ _ h => h)⟩
  have d2 : decide ((20 : Int) < n) = false := decide_eq_false h2
  by_cases h3 : (300 : Int) < (len : Int)
  · have d3 : decide ((300 : Int) < (len : Int)) = true := decide_eq_true h3
    clear hA
    go_enter Try.func6, Try.ntmps6
    go_wp2_with fail
    refine HAN.out.mono ?_
    rintro e w0 ⟨rfl, hk0⟩
    have HK0 := Lib.hid hk0
    clear hk0
    go_wp2
    go_ret
    exact ⟨rfl, HK0.out.below (fun _ _ h => h)⟩
  have d3 : decide ((300 : Int) < (len : Int)) = false := decide_eq_false h3
  obtain ⟨N, rfl⟩ := Int.eq_ofNat_of_zero_le (by omega : 0 ≤ n)
  exact (spaceKeeps_calls w N (by omega) (by omega) a len cap (by omega) xs hA).mono fun e w' ⟨he, hk⟩ => ⟨he, hk.below (fun _ _ h => h)⟩
end Go.Proofs.Ytnbiofcfphpikaa
