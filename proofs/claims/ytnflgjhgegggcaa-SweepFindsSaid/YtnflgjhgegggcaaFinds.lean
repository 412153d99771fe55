/-
  SweepFinds: the walk.
-/
import Derived.Test.YtnflgjhgegggcaaFindsP
namespace Go.Proofs.Ytnflgjhgegggcaa
open Go.RowKit
namespace Finds
open Frees

set_option maxRecDepth 100000 in
set_option maxHeartbeats 8000000 in
theorem finds_calls (w : World) (a : Option Addr) (len cap : Nat) (R : Nat → RawE) (hR : RawArg w a len R) (hF : Few R len)
    (a1 : Option Addr) (n c1 : Nat) (z1 : Nat → Int) (h1 : ArgI w a1 n c1 z1) (hn1 : n ≤ 100)
    (hanc : Calls Try.prog 8 #[] w fun e w' => e = .returned (.bool true) ∧ Keeps (fun _ => False) w w')
    (hfew : ∀ w0, Keeps (fun _ => False) w w0 → Calls Try.prog 11 #[.slice a len cap] w0 fun e w' => e = .returned (.bool true) ∧ Keeps (fun _ => False) w0 w') :
    Calls Try.prog 4 #[.slice a len cap, .slice a1 n c1] w fun e w' => e = .returned (.bool true) ∧ Keeps (fun _ => False) w w' := by
  have HAN := Lib.hid hanc
  have HFW := Lib.hid hfew
  have HR := Lib.hid hR
  have HFF := Lib.hid hF
  have H1 := Lib.hid h1
  have hlen := hF.1
  have d1 : decide ((100 : Int) < (n : Int)) = false := decide_eq_false (by omega)
  obtain ⟨i0, hi, hz0, hz1, hz2⟩ := info_parts Try.info_int
  clear hanc hfew hR hF h1
  go_enter Try.func4, Try.ntmps4
  go_wp2_with fail
  refine HAN.out.mono ?_
  rintro e w0 ⟨rfl, hk0⟩
  have HK0 := Lib.hid hk0
  have HFW0 := Lib.hid (HFW.out w0 hk0)
  clear hk0 HAN HFW
  go_wp2_with fail
  refine HFW0.out.mono ?_
  rintro e w1 ⟨rfl, hk1⟩
  have HK1 : Hid (Keeps (fun _ => False) w w1) := HK0.out.trans hk1 (fun _ _ h => h)
  have HMD := Lib.hid (made_calls w1 a len cap R (HR.out.keep HK1.out) HFF.out)
  clear hk1 HK0 HFW0
  go_wp2_with fail
  refine HMD.out.mono ?_
  rintro e w5 ⟨B, rb, v, E, H, rfl, hM⟩
  obtain ⟨al, cl, rfl, -⟩ := ownsRow_slice hM.out.env.row
  have HM := hM
  have HWF := Lib.hid (hM.out.env.wf HFF.out)
  have HLI := Lib.hid (m2_listed hM.out HFF.out)
  have HHP := Lib.hid hM.out.env.heap
  have HNB := Lib.hid hM.out.env.new
  have HK5 : Hid (Keeps (fun _ => False) w w5) := HK1.out.trans hM.out.env.keeps (fun _ _ h => h)
  have HQC : Hid (∀ wx, Keeps (fun _ => False) w5 wx → ∀ q, q < len → ∃ b, al = some ⟨b, 0, none⟩ ∧ wx.cell? ⟨b, q * 5, none⟩ = some (.int .i64 (mkA R q : Nat))) := by
    intro wx hk q hq
    obtain ⟨b, g, e, c0, -⟩ := entry_at hM.out HFF.out wx hk q hq
    exact ⟨b, e, c0⟩
  have hw1 : w.heap.size ≤ w1.heap.size := HK1.out.size
  have HCL : Hid (∀ wx, Keeps (fun _ => False) w5 wx → ∀ i, i < n → ∃ b o, a1 = some ⟨b, o, none⟩ ∧ wx.cell? ⟨b, o + i, none⟩ = some (.int .i64 ((zl z1 n).getD i 0))) := by
    intro wx hk i hi
    obtain ⟨b, o, e, h⟩ := (H1.out.1.keep (HK5.out.trans hk (fun _ _ h => h))).get hi
    rw [zl_get z1 hi]
    exact ⟨b, o, e, h⟩
  have HLL : Hid ((zl z1 n).length = n) := zl_length z1 n
  have HLW : Hid (∀ y ∈ zl z1 n, (Lit.int .i64 y).wf = true) := H1.out.fits
  clear hM HMD HR HK1 H1
  generalize zl z1 n = L at *
  have HST : Hid (Gather w5 w5 (.slice none 0 0) ((L.take 0).map (rv R len))) := Gather.start w5
  go_wp2
  go_loopw [8, 10, 44] (fun v _ i wr => ∃ k : Nat, k ≤ n ∧ i = .int .i64 k ∧ Hid (Gather w5 wr v ((L.take k).map (rv R len)))) (fun _ _ i _ => n - (intOf i).toNat)
  case atStart => exact ⟨0, Nat.zero_le _, rfl, HST⟩
  case round =>
    clear HST
    obtain ⟨k, hk, rfl, hG⟩ := hrel
    by_cases hlt : k < n
    · have dk : decide (k < n) = true := decide_eq_true hlt
      obtain ⟨b1, o1, rfl, hck⟩ := HCL.out wr hG.out.keeps k hlt
      have hkL : k < L.length := by rw [HLL.out]; exact hlt
      have HSN : Hid ((L.take k).map (rv R len) ++ [rv R len (L.getD k 0)] = (L.take (k + 1)).map (rv R len)) := by
        show _ = _
        rw [List.take_add_one, List.map_append, List.getElem?_eq_getElem hkL, List.getD_eq_getElem?_getD, List.getElem?_eq_getElem hkL]
        rfl
      have hfit := wf_lo (HLW.out (L.getD k 0) (by rw [List.getD_eq_getElem?_getD, List.getElem?_eq_getElem hkL]; exact List.getElem_mem hkL))
      have hll : ((L.take k).map (rv R len)).length ≤ 200 := by rw [List.length_map, List.length_take]; omega
      have HRV : Hid (∀ y, y = rv R len (L.getD k 0) → rv R len (L.getD k 0) = y) := fun y h => h.symm
      have hx1 := hfit.1
      have hx2 := hfit.2
      clear hfit hkL
      by_cases hx0 : L.getD k 0 < 0
      · have dx : decide (L.getD k 0 < 0) = true := decide_eq_true hx0
        by_cases hl0 : 0 < len
        · have dl : decide (0 < len) = true := decide_eq_true hl0
          have dl2 : decide ((0 : Int) < (len : Int)) = true := decide_eq_true (by omega)
          obtain ⟨q, hq⟩ : ∃ q, q = (-(L.getD k 0 + 1)).toNat % len := ⟨_, rfl⟩
          have hq1 : q < len := by rw [hq]; exact Nat.mod_lt _ hl0
          have e1 : (-(L.getD k 0 + 1)) % (len : Int) = (q : Int) := by
            rw [hq]
            have : (-(L.getD k 0 + 1)) = (((-(L.getD k 0 + 1)).toNat : Nat) : Int) := by omega
            rw [Int.natCast_emod, ← this]
          have e2 : (-(L.getD k 0 + 1)).tmod (len : Int) = (q : Int) := by rw [Int.tmod_eq_emod_of_nonneg (by omega)]; exact e1
          have dz0 : ((len : Int) == 0) = false := beq_eq_false_iff_ne.2 (by omega)
          obtain ⟨b, rfl, hcq⟩ := HQC.out wr hG.out.keeps q hq1
          have hrv : rv R len (L.getD k 0) = (mkA R q : Nat) := by unfold rv; rw [if_pos ⟨hx0, hl0⟩, ← hq]
          rw [hrv] at HSN
          clear hq hrv HRV
          generalize L.getD k 0 = x at *
          generalize mkA R q = aq at *
          generalize hl : (L.take k).map (rv R len) = l at *
          have HL := Lib.hid hl
          clear hl
          go_wp2_with (at_builtin; refine wpList_app1 _ rfl _ _ 29 rfl 3 i0 (.int .i64 0) 8 Try.underlying_ints hi hz0 hz1 hz2 rfl (by decide) _ l.length _ rfl (hG.out.ints.alloc _) _ 1 (.int .i64 (aq : Nat)) rfl (by simp) rfl (by omega) ?_; intro g cap w4 hO3 hK3 hg3)
          have HG := Lib.hid (hG.out.snoc hO3 hK3 hg3)
          clear hO3 hK3 hg3 hG
          go_wp2
          go_roundw
          case rel => exact ⟨k + 1, by omega, by go_num, by rw [← HSN.out]; exact HG⟩
          case measure => simp [intOf]; omega
        · have dl : decide (0 < len) = false := decide_eq_false hl0
          have dl2 : decide ((0 : Int) < (len : Int)) = false := decide_eq_false (by omega)
          have hrv : rv R len (L.getD k 0) = L.getD k 0 := by unfold rv; rw [if_neg (by omega)]
          rw [hrv] at HSN
          clear hrv HRV
          generalize L.getD k 0 = x at *
          generalize hl : (L.take k).map (rv R len) = l at *
          have HL := Lib.hid hl
          clear hl
          go_wp2_with (at_builtin; refine wpList_app1 _ rfl _ _ 29 rfl 3 i0 (.int .i64 0) 8 Try.underlying_ints hi hz0 hz1 hz2 rfl (by decide) _ l.length _ rfl (hG.out.ints.alloc _) _ 1 (.int .i64 x) rfl (by simp) rfl (by omega) ?_; intro g cap w4 hO3 hK3 hg3)
          have HG := Lib.hid (hG.out.snoc hO3 hK3 hg3)
          clear hO3 hK3 hg3 hG
          go_wp2
          go_roundw
          case rel => exact ⟨k + 1, by omega, by go_num, by rw [← HSN.out]; exact HG⟩
          case measure => simp [intOf]; omega
      · have dx : decide (L.getD k 0 < 0) = false := decide_eq_false hx0
        have hrv : rv R len (L.getD k 0) = L.getD k 0 := by unfold rv; rw [if_neg (by omega)]
        rw [hrv] at HSN
        clear hrv HRV
        generalize L.getD k 0 = x at *
        generalize hl : (L.take k).map (rv R len) = l at *
        have HL := Lib.hid hl
        clear hl
        go_wp2_with (at_builtin; refine wpList_app1 _ rfl _ _ 29 rfl 3 i0 (.int .i64 0) 8 Try.underlying_ints hi hz0 hz1 hz2 rfl (by decide) _ l.length _ rfl (hG.out.ints.alloc _) _ 1 (.int .i64 x) rfl (by simp) rfl (by omega) ?_; intro g cap w4 hO3 hK3 hg3)
        have HG := Lib.hid (hG.out.snoc hO3 hK3 hg3)
        clear hO3 hK3 hg3 hG
        go_wp2
        go_roundw
        case rel => exact ⟨k + 1, by omega, by go_num, by rw [← HSN.out]; exact HG⟩
        case measure => simp [intOf]; omega
    · obtain rfl : k = n := by omega
      have dk : decide (k < k) = false := by simp
      have hLk : L.take k = L := List.take_of_length_le (by rw [HLL.out]; omega)
      rw [hLk] at hG
      have HFT : Hid (∀ y ∈ L.map (rv R len), (Lit.int .i64 y).wf = true) := rv_fits HFF.out HLW.out
      have hFl : (L.map (rv R len)).length ≤ 100 := by rw [List.length_map, HLL.out]; omega
      generalize L.map (rv R len) = F at *
      obtain ⟨af, cf, rfl, hmd⟩ := hG.out.made'
      have HK6 : Hid (Keeps (fun _ => False) w5 wr) := hG.out.keeps
      have HAF : Hid (Arg wr af F.length (fun i => .int .i64 (F.getD i 0))) := hmd.out.arg
      have HAFN : Hid (∀ k, (.slice af F.length cf : Value).ownBlock = some k → w5.heap.size ≤ k) := hG.out.fresh
      have HSF : Hid (Src wr (.slice af F.length cf) F) := hG.out.ints.src
      have HSP : Hid (∀ ad n c, (.slice af F.length cf : Value) = .slice (some ad) n c → ad.spot = none) := by
        rintro ad n' c' e
        cases e
        rcases hG.out.ints with ⟨e, -⟩ | ⟨b', cap', cur, e, -⟩
        · cases e
        · cases e; rfl
      clear hG hmd hLk HCL HLL HLW HQC
      obtain ⟨w6, rfl⟩ : ∃ w6 : World, w6 = wr := ⟨_, rfl⟩
      have HST : Hid (Keeps (fun _ => False) w6 w6) := Keeps.refl _ _
      go_wp2
      go_loopw [72] (fun i wr => ∃ t : Nat, t ≤ len ∧ i = .int .i64 t ∧ Hid (Keeps (fun _ => False) w6 wr)) (fun i _ => len - (intOf i).toNat)
      case atStart => exact ⟨0, Nat.zero_le _, rfl, HST⟩
      case round =>
        clear HST
        obtain ⟨t, ht, rfl, hK⟩ := hrel
        by_cases htl : t < len
        · have dt : decide (t < len) = true := decide_eq_true htl
          obtain ⟨lb, gt, rfl, e0, e1, e2, e3, e4, -, -, HCH⟩ := entry_at HM.out HFF.out wr (HK6.out.trans hK.out (fun _ _ h => h)) t htl
          have HKS := Lib.hid (kids_short HM.out HFF.out htl)
          have HSC := Lib.hid (fun wx (hk : Keeps (fun _ => False) w5 wx) => kids_calls (HHP.out.keep hk (fun _ _ h => h)) HWF.out (mkA R t) ((HLI.out.rooms _).2 ⟨t, htl, rfl⟩))
          generalize H.kids (mkA R t) = KT at *
          generalize hat : ((mkA R t : Nat) : Int) = at_ at *
          have HAT := Lib.hid hat
          clear hat
          generalize mkK R t = kt at *
          generalize mkS R t = st at *
          generalize (R t).ms = mt at *
          generalize mkr R len t - 1 = nt at *
          have HBX : Hid (∀ j, (wr.alloc (.cells #[.int .i64 at_, .int .i64 kt, .int .i64 st, .int .i64 mt, .slice (some ⟨gt, 0, none⟩) nt nt] 37)).cell? ⟨wr.heap.size, j, none⟩ = #[.int .i64 at_, .int .i64 kt, .int .i64 st, .int .i64 mt, Value.slice (some ⟨gt, 0, none⟩) nt nt][j]?) := fun j => World.cell?_alloc_new wr _ _ j
          have HKA : Hid (Keeps (fun _ => False) w6 (wr.alloc (.cells #[.int .i64 at_, .int .i64 kt, .int .i64 st, .int .i64 mt, .slice (some ⟨gt, 0, none⟩) nt nt] 37))) := hK.out.alloc _
          go_wp2_with fail
          generalize (wr.alloc (.cells #[.int .i64 at_, .int .i64 kt, .int .i64 st, .int .i64 mt, .slice (some ⟨gt, 0, none⟩) nt nt] 37)) = w7 at *
          generalize wr.heap.size = p at *
          have HSS : Hid (∀ wx, Keeps (fun _ => False) w7 wx → wx.cell? ⟨p, 0, none⟩ = some (.int .i64 at_) ∧ wx.cell? ⟨p, 1, none⟩ = some (.int .i64 kt) ∧ wx.cell? ⟨p, 2, none⟩ = some (.int .i64 st) ∧ wx.cell? ⟨p, 3, none⟩ = some (.int .i64 mt) ∧ wx.cell? ⟨p, 4, none⟩ = some (.slice (some ⟨gt, 0, none⟩) nt nt)) := fun wx hk => ⟨hk.cell0 (HBX.out 0), hk.cell0 (HBX.out 1), hk.cell0 (HBX.out 2), hk.cell0 (HBX.out 3), hk.cell0 (HBX.out 4)⟩
          have hS0 : w7.drew.cell? ⟨p, 0, none⟩ = some (.int .i64 at_) ∧ w7.drew.cell? ⟨p, 1, none⟩ = some (.int .i64 kt) ∧ w7.drew.cell? ⟨p, 2, none⟩ = some (.int .i64 st) ∧ w7.drew.cell? ⟨p, 3, none⟩ = some (.int .i64 mt) ∧ w7.drew.cell? ⟨p, 4, none⟩ = some (.slice (some ⟨gt, 0, none⟩) nt nt) := HSS.out _ (Keeps.refl _ w7).drew
          have HP0 : Hid (Keeps (fun _ => False) w7 w7.drew) := (Keeps.refl _ w7).drew
          have HK57 : Hid (Keeps (fun _ => False) w5 w7) := HK6.out.trans HKA.out (fun _ _ h => h)
          have HC1 : Hid (∀ wx, Hid (Keeps (fun _ => False) w7 wx) → Calls Try.prog 14 #[.pointer (some ⟨B.h, 0, none⟩), .int .i64 at_] wx fun e w' => ∃ a c, e = .returned (.slice a KT.length c) ∧ (w'.cell? ⟨p, 0, none⟩ = some (.int .i64 at_) ∧ w'.cell? ⟨p, 1, none⟩ = some (.int .i64 kt) ∧ w'.cell? ⟨p, 2, none⟩ = some (.int .i64 st) ∧ w'.cell? ⟨p, 3, none⟩ = some (.int .i64 mt) ∧ w'.cell? ⟨p, 4, none⟩ = some (.slice (some ⟨gt, 0, none⟩) nt nt)) ∧ Hid (Keeps (fun _ => False) w7 w') ∧ Hid (Arg w' a KT.length (fun i => .int .i64 (KT.getD i 0))) ∧ Hid (Keeps (fun _ => False) wx w')) := by
            intro wx hk
            refine (HSC.out wx (HK57.out.trans hk.out (fun _ _ h => h))).mono ?_
            rintro e w' ⟨v, rfl, hG⟩
            obtain ⟨a, c, rfl, hm⟩ := hG.out.made'
            have hk' := hk.out.trans hm.out.keeps (fun _ _ h => h)
            exact ⟨a, c, rfl, HSS.out _ hk', hk', hm.out.arg, hm.out.keeps⟩
          have HC2 : Hid (∀ wx, Hid (Keeps (fun _ => False) w7 wx) → Calls Try.prog 15 #[.pointer (some ⟨rb, 0, none⟩), .agg #[.int .i64 at_, .int .i64 kt, .int .i64 st, .int .i64 mt, .slice (some ⟨gt, 0, none⟩) nt nt]] wx fun e w' => ∃ a c, e = .returned (.slice a KT.length c) ∧ (w'.cell? ⟨p, 0, none⟩ = some (.int .i64 at_) ∧ w'.cell? ⟨p, 1, none⟩ = some (.int .i64 kt) ∧ w'.cell? ⟨p, 2, none⟩ = some (.int .i64 st) ∧ w'.cell? ⟨p, 3, none⟩ = some (.int .i64 mt) ∧ w'.cell? ⟨p, 4, none⟩ = some (.slice (some ⟨gt, 0, none⟩) nt nt)) ∧ Hid (Keeps (fun _ => False) w7 w') ∧ Hid (Arg w' a KT.length (fun i => .int .i64 (KT.getD i 0))) ∧ Hid (Keeps (fun _ => False) wx w')) := by
            intro wx hk
            refine (HCH.out wx (HK57.out.trans hk.out (fun _ _ h => h))).mono ?_
            rintro e w' ⟨a, c, rfl, hm⟩
            have hk' := hk.out.trans hm.out.keeps (fun _ _ h => h)
            exact ⟨a, c, rfl, HSS.out _ hk', hk', hm.out.arg, hm.out.keeps⟩
          have HIN : Hid (∀ wx a1 a2 c1 c2, Hid (Arg wx a1 KT.length (fun i => .int .i64 (KT.getD i 0))) → Hid (Arg wx a2 KT.length (fun i => .int .i64 (KT.getD i 0))) → Calls Try.prog 13 #[.slice a1 KT.length c1, .slice a2 KT.length c2] wx fun e w' => e = .returned (.bool true) ∧ w' = wx) := fun wx a1 a2 c1 c2 h1 h2 => ints7_yes wx a1 a2 c1 c2 KT h1.out h2.out (by have := HKS.out; omega)
          have AK : Hid (∀ wx wy a, Hid (Arg wx a KT.length (fun i => .int .i64 (KT.getD i 0))) → Hid (Keeps (fun _ => False) wx wy) → Hid (Arg wy a KT.length (fun i => .int .i64 (KT.getD i 0)))) := fun wx wy a h hk => h.out.keep hk.out
          clear HBX HSS HCH HSC e0 e1 e2 e3 e4
          go_region_held3 (fun w' => w'.cell? ⟨p, 0, none⟩ = some (.int .i64 at_) ∧ w'.cell? ⟨p, 1, none⟩ = some (.int .i64 kt) ∧ w'.cell? ⟨p, 2, none⟩ = some (.int .i64 st) ∧ w'.cell? ⟨p, 3, none⟩ = some (.int .i64 mt) ∧ w'.cell? ⟨p, 4, none⟩ = some (.slice (some ⟨gt, 0, none⟩) nt nt)) (first | exact hS0 | assumption | (refine ⟨?_, ?_, ?_, ?_, ?_⟩ <;> assumption))
            (first | (go_at_call 14; refine (HC1.out _ (by first | assumption | exact HP0)).mono ?_; rintro e w' ⟨a1, c1, rfl, hs, hp1, ha1, hkk⟩) | (go_at_call 15; refine (HC2.out _ (by first | assumption | exact HP0)).mono ?_; rintro e w' ⟨a1, c1, rfl, hs, hp1, ha1, hkk⟩) | (go_at_call 13; refine (HIN.out _ _ _ _ _ (by first | assumption | exact AK.out _ _ _ (by assumption) (by assumption)) (by first | assumption | exact AK.out _ _ _ (by assumption) (by assumption))).mono ?_; rintro e w' ⟨rfl, rfl⟩))
          all_goals go_wp2
          all_goals exact ⟨⟨t + 1, by omega, by go_num, Keeps.trans HKA.out (Hid.out (by assumption)) (fun _ _ h => h)⟩, by simp only [intOf]; omega⟩
        · obtain rfl : t = len := by omega
          have dt : decide (t < t) = false := by simp
          have HKR : Hid (Keeps (fun _ => False) w5 wr) := HK6.out.trans hK.out (fun _ _ h => h)
          have HRC := Lib.hid (Rc7.reached7_calls (m2_keep HM.out HKR.out) HFF.out F af cf (HAF.out.keep hK.out) (by omega))
          obtain ⟨w7, rfl⟩ : ∃ w7 : World, w7 = wr := ⟨_, rfl⟩
          go_wp2_with fail
          refine HRC.out.mono ?_
          rintro e w8 ⟨p, M, rfl, hmk⟩
          have HMK := Lib.hid hmk.out.1
          have HLV : Hid (∀ i, i < t → (M i = true ↔ H.Live F (mkA R i))) := hmk.out.2
          have HK8 : Hid (Keeps (fun _ => False) w5 w8) := HKR.out.trans hmk.out.1.keeps (fun _ _ h => h)
          have HK68 : Hid (Keeps (fun _ => False) w6 w8) := hK.out.trans hmk.out.1.keeps (fun _ _ h => h)
          clear hmk HRC hK
          obtain ⟨lv, Lr, hra, -, -⟩ := HM.out.env.ref
          obtain ⟨ar, cr, rfl, -⟩ := hra.slice
          have HRA := Lib.hid (hra.keep HK8.out (fun _ _ h => h))
          have HBE : Hid (Lr.map RB.a = H.blocks) := by show _ = _; rw [hra.ats, HM.out.env.shape, blocks_with]
          have hLr : Lr.length ≤ 40 := by
            have h1 := hra.len
            have h2 := Listed.count (mk_listed HFF.out t (Nat.le_refl _))
            omega
          have c1 := HRA.out.c1
          clear hra
          have HST : Hid (Gather w8 w8 (.slice none 0 0) (wl H F (H.blocks.take 0))) := Gather.start w8
          go_wp2
          go_loopw [14, 95] (fun v i wr => ∃ q : Nat, q ≤ Lr.length ∧ i = .int .i64 q ∧ Hid (Gather w8 wr v (wl H F (H.blocks.take q)))) (fun _ i _ => Lr.length - (intOf i).toNat)
          case atStart => exact ⟨0, Nat.zero_le _, rfl, HST⟩
          case round =>
            clear HST c1
            obtain ⟨q, hq, rfl, hG⟩ := hrel
            by_cases hql : q < Lr.length
            · have dq : decide (q < Lr.length) = true := decide_eq_true hql
              obtain ⟨br, rfl, -, e0, e1, e2⟩ := (HRA.out.keep hG.out.keeps (fun _ _ h => h)).at_ (i := q) hql
              have hqb : H.blocks[q]? = some (ra Lr q) := by
                rw [← HBE.out, List.getElem?_map, List.getElem?_eq_getElem hql]
                unfold ra
                rw [List.getD_eq_getElem?_getD, List.getElem?_eq_getElem hql]
                rfl
              have HYES : Hid (H.Live F (ra Lr q : Nat) → wl H F (H.blocks.take (q + 1)) = wl H F (H.blocks.take q) ++ [((ra Lr q : Nat) : Int)]) := fun h => take_wl_yes hqb h
              have HNO : Hid (¬ H.Live F (ra Lr q : Nat) → wl H F (H.blocks.take (q + 1)) = wl H F (H.blocks.take q)) := fun h => take_wl_no hqb h
              have hxb : ∃ i, i < t ∧ ra Lr q = mkA R i := (HLI.out.rooms _).1 ((HWF.out.mem_blocks _).1 (List.mem_of_getElem? hqb))
              have HXB := Lib.hid hxb
              have hpl : (wl H F (H.blocks.take q)).length ≤ 40 := by
                have h1 : (wl H F (H.blocks.take q)).length ≤ (H.blocks.take q).length := wl_length
                rw [List.length_take] at h1
                omega
              generalize hpre : wl H F (H.blocks.take q) = pre at *
              generalize hxx : ra Lr q = x at *
              have HPX := Lib.hid hpre
              have HXX := Lib.hid hxx
              clear hqb hxb hpre hxx
              generalize rr Lr q = rq at *
              generalize rg Lr q = gq at *
              have HWT : Hid (Wt w8 (wr.alloc (.cells #[.int .i64 (x : Nat), .int .i64 (rq : Nat), .slice (some ⟨gq, 0, none⟩) rq rq] 47)) wr.heap.size x u14 pre) :=
                ⟨hG.out.keep ((Keeps.refl _ wr).alloc _), World.cell?_alloc_new wr _ _ 0, fun k hk => by have := Own.lt hG.out.ints k hk; omega, by simp⟩
              go_wp2
              generalize (wr.alloc (.cells #[.int .i64 (x : Nat), .int .i64 (rq : Nat), .slice (some ⟨gq, 0, none⟩) rq rq] 47)) = w9 at *
              generalize wr.heap.size = p2 at *
              go_loopw [14, 101] (fun v j wr => ∃ s : Nat, s ≤ t ∧ j = .int .i64 s ∧ ((Hid (Wt w8 wr p2 x v pre) ∧ Hid (∀ i, i < s → mkA R i = x → M i = false)) ∨ (Hid (Wt w8 wr p2 x v (pre ++ [((x : Nat) : Int)])) ∧ Hid (∃ i, i < s ∧ mkA R i = x ∧ M i = true)))) (fun _ j _ => t - (intOf j).toNat)
              case atStart => exact ⟨0, Nat.zero_le _, rfl, .inl ⟨HWT, fun i hi => by omega⟩⟩
              case round =>
                clear HWT e0 e1 e2
                obtain ⟨s, hs, rfl, hD⟩ := hrel
                by_cases hst : s < t
                · have ds : decide (s < t) = true := decide_eq_true hst
                  have HINJ : Hid (∀ i, i < t → mkA R i = mkA R s → i = s) := fun i hi e => HLI.out.inj i s hi hst e
                  rcases hD with ⟨hW, hN⟩ | ⟨hW, hY⟩
                  · have hk8 := hW.out.g.keeps
                    obtain ⟨lb, gs, rfl, f0, -⟩ := entry_at HM.out HFF.out wr (HK8.out.trans hk8 (fun _ _ h => h)) s hst
                    have f1 := hk8.cell0 (HMK.out.cell hst).1
                    have f2 := hW.out.c0
                    by_cases hax : mkA R s = x
                    · have bax : (((mkA R s : Nat) : Int) == ((x : Nat) : Int)) = true := by rw [hax]; simp
                      cases hMs : M s with
                      | true =>
                        rw [hMs] at f1
                        have HY2 : Hid (∃ i, i < s + 1 ∧ mkA R i = x ∧ M i = true) := ⟨s, by omega, hax, hMs⟩
                        clear hax hMs hN
                        go_wp2_with fail
                        go_quiet (fail)
                        have hW2 : Hid (Wt w8 (wr.drewN nq) p2 x u14 pre) := hW.out.drewN nq
                        have f2' := hW2.out.c0
                        generalize wr.drewN nq = w10 at *
                        go_wp2_with (at_builtin; refine wpList_app1 _ rfl _ _ 29 rfl 3 i0 (.int .i64 0) 8 Try.underlying_ints hi hz0 hz1 hz2 rfl (by decide) _ pre.length _ rfl (hW2.out.g.ints.alloc _) _ 1 (.int .i64 (x : Nat)) rfl (by simp) rfl (by omega) ?_; intro ga capa w11 hO3 hK3 hg3)
                        have HN2 := Lib.hid (hW2.out.snoc hO3 hK3 hg3)
                        clear hO3 hK3 hg3 hW2 hW
                        go_wp2
                        exact ⟨⟨s + 1, by omega, by go_num, .inr ⟨HN2, HY2⟩⟩, by simp only [intOf]; omega⟩
                      | false =>
                        rw [hMs] at f1
                        have HN2 : Hid (∀ i, i < s + 1 → mkA R i = x → M i = false) := fun i hi e => by
                          by_cases e2 : i = s
                          · rw [e2]; exact hMs
                          · exact hN.out i (by omega) e
                        clear hax hMs hN
                        go_wp2_with fail
                        go_quiet (fail)
                        have hW2 : Hid (Wt w8 (wr.drewN nq) p2 x u14 pre) := hW.out.drewN nq
                        go_wp2
                        exact ⟨⟨s + 1, by omega, by go_num, .inl ⟨hW2, HN2⟩⟩, by simp only [intOf]; omega⟩
                    · have bax : (((mkA R s : Nat) : Int) == ((x : Nat) : Int)) = false := beq_eq_false_iff_ne.2 (by omega)
                      have HN2 : Hid (∀ i, i < s + 1 → mkA R i = x → M i = false) := fun i hi e => by
                        by_cases e2 : i = s
                        · rw [e2] at e; exact absurd e hax
                        · exact hN.out i (by omega) e
                      clear hax hN
                      go_wp2_with fail
                      go_quiet (fail)
                      have hW2 : Hid (Wt w8 (wr.drewN nq) p2 x u14 pre) := hW.out.drewN nq
                      go_wp2
                      exact ⟨⟨s + 1, by omega, by go_num, .inl ⟨hW2, HN2⟩⟩, by simp only [intOf]; omega⟩
                  · have hk8 := hW.out.g.keeps
                    obtain ⟨lb, gs, rfl, f0, -⟩ := entry_at HM.out HFF.out wr (HK8.out.trans hk8 (fun _ _ h => h)) s hst
                    have f1 := hk8.cell0 (HMK.out.cell hst).1
                    have f2 := hW.out.c0
                    have hax : ¬ mkA R s = x := fun e => by
                      obtain ⟨i, hi, h1, -⟩ := hY.out
                      have := HINJ.out i (by omega) (by rw [h1, e])
                      omega
                    have bax : (((mkA R s : Nat) : Int) == ((x : Nat) : Int)) = false := beq_eq_false_iff_ne.2 (by omega)
                    have HY2 : Hid (∃ i, i < s + 1 ∧ mkA R i = x ∧ M i = true) := by
                      obtain ⟨i, hi, h1, h2⟩ := hY.out
                      exact ⟨i, by omega, h1, h2⟩
                    clear hax hY
                    go_wp2_with fail
                    go_quiet (fail)
                    have hW2 : Hid (Wt w8 (wr.drewN nq) p2 x u14 (pre ++ [((x : Nat) : Int)])) := hW.out.drewN nq
                    go_wp2
                    exact ⟨⟨s + 1, by omega, by go_num, .inr ⟨hW2, HY2⟩⟩, by simp only [intOf]; omega⟩
                · obtain rfl : s = t := by omega
                  have ds : decide (s < s) = false := by simp
                  have HNX : Hid (Gather w8 wr u14 (wl H F (H.blocks.take (q + 1)))) := by
                    obtain ⟨i0', hi0, e0'⟩ := HXB.out
                    rcases hD with ⟨hW, hN⟩ | ⟨hW, hY⟩
                    · rw [HNO.out (fun h => by
                        have h1 := hN.out i0' hi0 e0'.symm
                        rw [e0'] at h
                        have h2 := (HLV.out i0' hi0).2 h
                        rw [h1] at h2
                        cases h2)]
                      exact hW.out.g
                    · obtain ⟨i, hi, h1, h2⟩ := hY.out
                      rw [HYES.out (by rw [← h1]; exact (HLV.out i hi).1 h2)]
                      exact hW.out.g
                  clear hD
                  go_wp2
                  exact ⟨⟨q + 1, by omega, by go_num, HNX⟩, by simp only [intOf]; omega⟩
            · obtain rfl : q = Lr.length := by omega
              have dq : decide (Lr.length < Lr.length) = false := by simp
              have hbl : H.blocks.length = Lr.length := by rw [← HBE.out, List.length_map]
              have hbt : H.blocks.length = t := by
                have h := Listed.count HLI.out
                simpa using h
              rw [List.take_of_length_le (by omega)] at hG
              have hWl : (wl H F H.blocks).length ≤ t := by rw [← hbt]; exact wl_length
              have HWR : Hid ((wl H F H.blocks).Pairwise (· < ·)) := wl_rising H.blocks_sorted
              have HWM : Hid (∀ y, y ∈ wl H F H.blocks ↔ H.Live F y) := fun y => mem_wl_all HWF.out
              have HWS : Hid (∀ H' c, H.Swept H' F c → ofNats H'.blocks = wl H F H.blocks ∧ c + (wl H F H.blocks).length = t) := fun H' c hs => by
                have h := swept_blocks HWF.out hs
                rw [hbt] at h
                exact h
              generalize wl H F H.blocks = W at *
              obtain ⟨aw, cw, rfl, hmw⟩ := hG.out.made'
              have HAW : Hid (Arg wr aw W.length (fun i => .int .i64 (W.getD i 0))) := hmw.out.arg
              have HAN : Hid (∀ ad : Addr, aw = some ad → w8.heap.size ≤ ad.block) := hmw.out.fresh
              have HKG : Hid (Keeps (fun _ => False) w5 wr) := HK8.out.trans hG.out.keeps (fun _ _ h => h)
              have HKW : Hid (Keeps (fun _ => False) w6 wr) := HK68.out.trans hG.out.keeps (fun _ _ h => h)
              have HK8R : Hid (Keeps (fun _ => False) w8 wr) := hG.out.keeps
              have HHR := Lib.hid (HHP.out.keep HKG.out (fun _ _ h => h))
              clear hG hmw HRA HBE hLr
              have HC1 : Hid (Calls Try.prog 17 #[.pointer (some ⟨B.h, 0, none⟩), .slice af F.length cf] wr fun e w' => ∃ a c, e = .returned (.slice a W.length c) ∧ Hid (Arg w' a W.length (fun i => .int .i64 (W.getD i 0))) ∧ Hid (Keeps (fun _ => False) wr w')) := by
                refine (reached_calls HHR.out HWF.out (HSF.out.keep HKW.out (fun _ _ h => h)) HSP.out (by omega) HFT.out).mono ?_
                rintro e w' ⟨a, c, l, rfl, hm⟩
                obtain rfl : l = W := rising_eqI hm.out.2.1 HWR.out (fun x => by rw [hm.out.2.2 x, HWM.out x])
                exact ⟨a, c, rfl, hm.out.1.arg, hm.out.1.keeps⟩
              have HIN : Hid (∀ wx a1 a2 c1 c2, Arg wx a1 W.length (fun i => .int .i64 (W.getD i 0)) → Arg wx a2 W.length (fun i => .int .i64 (W.getD i 0)) → Calls Try.prog 13 #[.slice a1 W.length c1, .slice a2 W.length c2] wx fun e w' => e = .returned (.bool true) ∧ w' = wx) := fun wx a1 a2 c1 c2 h1 h2 => ints7_yes wx a1 a2 c1 c2 W h1 h2 (by omega)
              have HC3 : Hid (∀ wx, Keeps (fun _ => False) wr wx → Calls Try.prog 14 #[.pointer (some ⟨B.h, 0, none⟩), .int .i64 1] wx fun e w' => ∃ a c, e = .returned (.slice a 0 c) ∧ Hid (Keeps (fun _ => False) wr w')) := by
                intro wx hk
                have hr1 : H.roomI 1 = 0 := by
                  apply Classical.byContradiction
                  intro hne
                  have h1 : H.isRef 1 = true := by unfold HS.isRef; exact decide_eq_true hne
                  have := HS.isRef_pos HWF.out h1
                  omega
                refine (kids_off (HHR.out.keep hk (fun _ _ h => h)) HWF.out 1 hr1).mono ?_
                rintro e w' ⟨v, rfl, hg⟩
                obtain ⟨a, c, rfl, hm⟩ := hg.out.made'
                exact ⟨a, c, rfl, hk.trans hm.out.keeps (fun _ _ h => h)⟩
              have HC4 : Hid (∀ wx, Keeps (fun _ => False) wr wx → Calls Try.prog 18 #[.pointer (some ⟨B.h, 0, none⟩), .slice af F.length cf] wx fun e w' => ∃ c : Nat, e = .returned (.int .i64 c) ∧ ∃ H', Hid (HeapAt w' B H' ∧ H.Swept H' F c ∧ Keeps B.wr wx w')) := fun wx hk => collect_calls (HHR.out.keep hk (fun _ _ h => h)) HWF.out ((HSF.out.keep HKW.out (fun _ _ h => h)).keep hk (fun _ _ h => h)) HSP.out (by omega) HFT.out
              obtain ⟨w9, rfl⟩ : ∃ w9 : World, w9 = wr := ⟨_, rfl⟩
              go_wp2_with fail
              refine HC1.out.mono ?_
              rintro e w10 ⟨ax, cx, rfl, hax, hk10⟩
              go_wp2_with fail
              refine (HIN.out _ _ _ _ _ hax.out (HAW.out.keep hk10.out)).mono ?_
              rintro e w11 ⟨rfl, rfl⟩
              go_wp2_with fail
              refine (HC3.out _ hk10.out).mono ?_
              rintro e w12 ⟨ay, cy, rfl, hk12⟩
              have HAW12 := Lib.hid (HAW.out.keep hk12.out)
              have HC5 := Lib.hid (HC4.out w12 hk12.out)
              clear hax hk10 HC1 HC3 HC4
              go_wp2_with fail
              refine HC5.out.mono ?_
              rintro e w13 ⟨c, rfl, H', h13⟩
              have hcw := (HWS.out H' c h13.out.2.1).2
              have hbw := (HWS.out H' c h13.out.2.1).1
              have hB5 : ∀ b, B.wr b → b < w5.heap.size := fun b hb => HHP.out.lt b (.inr hb)
              have hs58 := HK8.out.size
              have hs57 := HKR.out.size
              have HAW13 : Hid (Arg w13 aw W.length (fun i => .int .i64 (W.getD i 0))) := HAW12.out.keepF h13.out.2.2 (fun ad e hb => by
                have h1 := HAN.out ad e
                have h2 := hB5 _ hb
                omega)
              have hwf' := h13.out.2.1.wf
              have HBK : Hid (Calls Try.prog 19 #[.pointer (some ⟨B.h, 0, none⟩)] w13 fun e w' => ∃ a c, e = .returned (.slice a W.length c) ∧ Hid (Arg w' a W.length (fun i => .int .i64 (W.getD i 0))) ∧ Hid (Keeps (fun _ => False) w13 w')) := by
                refine (blocks_calls h13.out.1 hwf').mono ?_
                rintro e w' ⟨a, c, rfl, hm⟩
                rw [hbw] at hm
                have hl : H'.blocks.length = W.length := by rw [← hbw]; simp [ofNats]
                rw [hl]
                exact ⟨a, c, rfl, hm.out.arg, hm.out.keeps⟩
              have hsub : (t : Int) - (W.length : Int) = (c : Int) := by omega
              have hcb : (c : Int) ≤ 40 := by omega
              have hcp : (0 : Int) ≤ (c : Int) := by omega
              have HPN : Hid (¬ B.wr p) := fun hb => by
                have h1 := hB5 _ hb
                have h2 := HMK.out.new
                omega
              have HM13 : Hid (∀ i, i < t → w13.cell? ⟨p, i, none⟩ = some (.bool (M i))) := fun i hi => h13.out.2.2.cell (hk12.out.cell0 (HK8R.out.cell0 (HMK.out.cell hi).1)) HPN.out
              have HE13 : Hid (∀ i, i < t → ∃ b g, al = some ⟨b, 0, none⟩ ∧ w13.cell? ⟨b, i * 5, none⟩ = some (.int .i64 (mkA R i : Nat)) ∧ w13.cell? ⟨b, i * 5 + 1, none⟩ = some (.int .i64 (mkK R i)) ∧ w13.cell? ⟨b, i * 5 + 2, none⟩ = some (.int .i64 (mkS R i)) ∧ w13.cell? ⟨b, i * 5 + 3, none⟩ = some (.int .i64 (R i).ms) ∧ w13.cell? ⟨b, i * 5 + 4, none⟩ = some (.slice (some ⟨g, 0, none⟩) (mkr R t i - 1) (mkr R t i - 1)) ∧
                  (∀ u, u < mkr R t i - 1 → w13.cell? ⟨g, u, none⟩ = some (.int .i64 (mkw R t i u)))) := fun i hi => entry_after HM.out HFF.out w12 (HKG.out.trans hk12.out (fun _ _ h => h)) w13 h13.out.2.2 i hi
              have HSF13 : Hid (Src w13 (.slice af F.length cf) F) := ((HSF.out.keep HKW.out (fun _ _ h => h)).keep hk12.out (fun _ _ h => h)).keep h13.out.2.2 (fun k hk hb => by
                have h1 := HAFN.out k hk
                have h2 := hB5 _ hb
                omega)
              have HK13 : Hid (Keeps (fun _ => False) w w13) := (HK5.out.trans (HKG.out.trans hk12.out (fun _ _ h => h)) (fun _ _ h => h)).trans h13.out.2.2 (fun b hb hw => by
                have := HNB.out b (.inr hw)
                omega)
              have HLY : Hid (∀ wx, Keeps (fun _ => False) w13 wx → ∀ i, i < t → M i = true → ∀ u : Nat, u < mkr R t i - 1 → Calls Try.prog 20 #[.pointer (some ⟨B.h, 0, none⟩), .int .i64 (mkA R i : Nat), .int .i64 ((u : Int) + 1)] wx fun e w' => e = .returned (.tuple #[.int .i64 (mkw R t i u), .bool true]) ∧ ∃ q, w' = wx.drewN q) := by
                intro wx hk i hi hM u hu
                have hlv := (HLV.out i hi).1 hM
                have hroom : H'.room (mkA R i) = mkr R t i := by rw [h13.out.2.1.kept _ hlv]; exact HM.out.env.room i
                have hld := load_yes (h13.out.1.keep hk (fun _ _ h => h)) hwf' (mkA R i : Nat) ((u : Int) + 1) (by omega) (by rw [HS.roomI_nat, hroom]; omega)
                rw [show (((mkA R i : Nat) : Int) + ((u : Int) + 1)).toNat = mkA R i + 1 + u by omega, h13.out.2.1.words, (HM.out.done i hi).1.wd u hu] at hld
                exact hld.mono fun e w' ⟨h, hq⟩ => ⟨retPair_out h, hq⟩
              have HLNo : Hid (∀ wx, Keeps (fun _ => False) w13 wx → ∀ i, i < t → M i = false → ∀ u : Nat, Calls Try.prog 20 #[.pointer (some ⟨B.h, 0, none⟩), .int .i64 (mkA R i : Nat), .int .i64 ((u : Int) + 1)] wx fun e w' => e = .returned (.tuple #[.int .i64 0, .bool false]) ∧ ∃ q, w' = wx.drewN q) := by
                intro wx hk i hi hM u
                have hno : ¬ H.Live F (mkA R i) := fun h => by have := (HLV.out i hi).2 h; rw [hM] at this; cases this
                have hroom : H'.room (mkA R i) = 0 := h13.out.2.1.gone _ hno
                exact (load_no (h13.out.1.keep hk (fun _ _ h => h)) hwf' (mkA R i : Nat) ((u : Int) + 1) (.inr (by rw [HS.roomI_nat, hroom]; omega))).mono fun e w' ⟨h, hq⟩ => ⟨retPair_out h, hq⟩
              have HFC : Hid (∀ wx, Keeps (fun _ => False) w13 wx → Calls Try.prog 18 #[.pointer (some ⟨B.h, 0, none⟩), .slice af F.length cf] wx fun e w' => e = .returned (.int .i64 0) ∧ Keeps (fun _ => False) w w') := by
                intro wx hk
                refine (collect_calls (h13.out.1.keep hk (fun _ _ h => h)) hwf' (HSF13.out.keep hk (fun _ _ h => h)) HSP.out (by omega) HFT.out).mono ?_
                rintro e w' ⟨c2, rfl, H2, hm⟩
                obtain rfl : c2 = 0 := swept_again HWF.out h13.out.2.1 hm.out.2.1
                exact ⟨rfl, (HK13.out.trans hk (fun _ _ h => h)).trans hm.out.2.2 (fun b hb hw => by have := HNB.out b (.inr hw); omega)⟩
              have HNR : Hid (∀ i, i < t → (mkr R t i - 1 : Nat) ≤ 1048576) := fun i hi => by have := (mkr_ge HFF.out hi).2.2.1; omega
              clear hcw hbw h13 hB5 HWS HWM HWR HC5 HAW12 hwf' HM HSF13 HLV HMK HSF
              go_wp2_with fail
              refine HBK.out.mono ?_
              rintro e w14 ⟨ab, cb, rfl, hab, hk14⟩
              go_wp2_with fail
              refine (HIN.out _ _ _ _ _ hab.out (HAW13.out.keep hk14.out)).mono ?_
              rintro e w15 ⟨rfl, rfl⟩
              clear hab HBK HIN HAW13
              have HST : Hid (Keeps (fun _ => False) w13 w15) := hk14
              go_wp2
              go_loopw [155] (fun i wr => ∃ s : Nat, s ≤ t ∧ i = .int .i64 s ∧ Hid (Keeps (fun _ => False) w13 wr)) (fun i _ => t - (intOf i).toNat)
              case atStart => exact ⟨0, Nat.zero_le _, rfl, HST⟩
              case round =>
                clear HST hk14
                obtain ⟨s, hs, rfl, hK⟩ := hrel
                by_cases hst : s < t
                · have ds : decide (s < t) = true := decide_eq_true hst
                  obtain ⟨lb, gs, rfl, f0, f1, f2, f3, f4, fw⟩ := HE13.out s hst
                  have HFW2 := Lib.hid fw
                  have HM5 := Lib.hid (HM13.out s hst)
                  replace f0 := hK.out.cell0 f0
                  replace f1 := hK.out.cell0 f1
                  replace f2 := hK.out.cell0 f2
                  replace f3 := hK.out.cell0 f3
                  replace f4 := hK.out.cell0 f4
                  have HL1 := Lib.hid (fun wx hk => HLY.out wx hk s hst)
                  have HL2 := Lib.hid (fun wx hk => HLNo.out wx hk s hst)
                  have hnr := HNR.out s hst
                  clear fw
                  generalize hat : ((mkA R s : Nat) : Int) = at_ at *
                  have HAT := Lib.hid hat
                  clear hat
                  generalize hbm : M s = bm at *
                  have HBM := Lib.hid hbm
                  clear hbm
                  generalize mkK R s = kt at *
                  generalize mkS R s = st at *
                  generalize (R s).ms = mt at *
                  generalize mkr R t s - 1 = nt at *
                  have HBX : Hid (∀ j, (wr.alloc (.cells #[.int .i64 at_, .int .i64 kt, .int .i64 st, .int .i64 mt, .slice (some ⟨gs, 0, none⟩) nt nt] 37)).cell? ⟨wr.heap.size, j, none⟩ = #[.int .i64 at_, .int .i64 kt, .int .i64 st, .int .i64 mt, Value.slice (some ⟨gs, 0, none⟩) nt nt][j]?) := fun j => World.cell?_alloc_new wr _ _ j
                  have HKA : Hid (Keeps (fun _ => False) w13 (wr.alloc (.cells #[.int .i64 at_, .int .i64 kt, .int .i64 st, .int .i64 mt, .slice (some ⟨gs, 0, none⟩) nt nt] 37))) := hK.out.alloc _
                  clear hK
                  go_wp2
                  generalize (wr.alloc (.cells #[.int .i64 at_, .int .i64 kt, .int .i64 st, .int .i64 mt, .slice (some ⟨gs, 0, none⟩) nt nt] 37)) = w16 at *
                  generalize wr.heap.size = p3 at *
                  have HST2 : Hid (Keeps (fun _ => False) w16 w16) := Keeps.refl _ _
                  go_loopw [163] (fun i wr => ∃ u : Nat, u ≤ nt ∧ i = .int .i64 u ∧ Hid (Keeps (fun _ => False) w16 wr)) (fun i _ => nt - (intOf i).toNat)
                  case atStart => exact ⟨0, Nat.zero_le _, rfl, HST2⟩
                  case round =>
                    clear HST2 f0 f1 f2 f3 f4
                    obtain ⟨u, hu, rfl, hK2⟩ := hrel
                    by_cases hun : u < nt
                    · have du : decide (u < nt) = true := decide_eq_true hun
                      have HK2A : Hid (Keeps (fun _ => False) w13 wr) := HKA.out.trans hK2.out (fun _ _ h => h)
                      have x0 := hK2.out.cell0 (HBX.out 0)
                      have x4 := HK2A.out.cell0 (HFW2.out u hun)
                      have xm := HK2A.out.cell0 HM5.out
                      replace x0 : wr.cell? ⟨p3, 0, none⟩ = some (.int .i64 at_) := x0
                      cases bm with
                      | true =>
                        have HLD := Lib.hid (HL1.out wr HK2A.out rfl u hun)
                        generalize mkw R t s u = xw at *
                        go_wp2_with fail
                        refine HLD.out.mono ?_
                        rintro e w17 ⟨rfl, q, rfl⟩
                        replace xm : (wr.drewN q).cell? ⟨p, s, none⟩ = some (.bool true) := xm
                        have HN : Hid (Keeps (fun _ => False) w16 (wr.drewN q)) := hK2.out.drewN q
                        clear HLD hK2 x0 x4
                        go_wp2
                        go_roundw
                        case rel => exact ⟨u + 1, by omega, by go_num, HN⟩
                        case measure => simp [intOf]; omega
                      | false =>
                        have HLD := Lib.hid (HL2.out wr HK2A.out rfl u)
                        generalize mkw R t s u = xw at *
                        go_wp2_with fail
                        refine HLD.out.mono ?_
                        rintro e w17 ⟨rfl, q, rfl⟩
                        replace xm : (wr.drewN q).cell? ⟨p, s, none⟩ = some (.bool false) := xm
                        have HN : Hid (Keeps (fun _ => False) w16 (wr.drewN q)) := hK2.out.drewN q
                        clear HLD hK2 x0 x4
                        go_wp2
                        go_roundw
                        case rel => exact ⟨u + 1, by omega, by go_num, HN⟩
                        case measure => simp [intOf]; omega
                    · obtain rfl : u = nt := by omega
                      have du : decide (u < u) = false := by simp
                      have HN : Hid (Keeps (fun _ => False) w13 wr) := HKA.out.trans hK2.out (fun _ _ h => h)
                      clear hK2
                      go_wp2
                      go_roundw
                      case rel => exact ⟨s + 1, by omega, by go_num, HN⟩
                      case measure => simp [intOf]; omega
                · obtain rfl : s = t := by omega
                  have ds : decide (s < s) = false := by simp
                  have HC := Lib.hid (HFC.out wr hK.out)
                  clear hK HFC
                  go_wp2_with fail
                  refine HC.out.mono ?_
                  rintro e w18 ⟨rfl, hk18⟩
                  have HKF := Lib.hid hk18
                  clear hk18 HC
                  go_wp2
                  go_ret
                  exact ⟨rfl, HKF.out⟩
end Finds
end Go.Proofs.Ytnflgjhgegggcaa
