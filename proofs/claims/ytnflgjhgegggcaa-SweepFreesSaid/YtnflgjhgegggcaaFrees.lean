/-
  SweepFrees: the walk.
-/
import Derived.Test.YtnflgjhgegggcaaFreesP
import Derived.Test.YtnflgjhgegggcaaFront
namespace Go.Proofs.Ytnflgjhgegggcaa
open Go.RowKit
namespace Frees

set_option maxRecDepth 100000 in
set_option maxHeartbeats 8000000 in
theorem frees_calls (w : World) (a : Option Addr) (len cap : Nat) (R : Nat → RawE) (hR : RawArg w a len R) (hF : Few R len)
    (a1 : Option Addr) (n1 c1 : Nat) (z1 : Nat → Int) (h1 : ArgI w a1 n1 c1 z1) (a2 : Option Addr) (n2 c2 : Nat) (z2 : Nat → Int) (h2 : ArgI w a2 n2 c2 z2) (hn1 : n1 ≤ 100) (hn2 : n2 ≤ 100)
    (hanc : Calls Try.prog 8 #[] w fun e w' => e = .returned (.bool true) ∧ Keeps (fun _ => False) w w')
    (hfew : ∀ w0, Keeps (fun _ => False) w w0 → Calls Try.prog 11 #[.slice a len cap] w0 fun e w' => e = .returned (.bool true) ∧ Keeps (fun _ => False) w0 w') :
    Calls Try.prog 7 #[.slice a len cap, .slice a1 n1 c1, .slice a2 n2 c2] w fun e w' => e = .returned (.bool true) ∧ Keeps (fun _ => False) w w' := by
  have HAN := Lib.hid hanc
  have HFW := Lib.hid hfew
  have HR := Lib.hid hR
  have HFF := Lib.hid hF
  have H1 := Lib.hid h1
  have H2 := Lib.hid h2
  have hlen := hF.1
  have d1 : decide ((100 : Int) < (n1 : Int)) = false := decide_eq_false (by omega)
  have d2 : decide ((100 : Int) < (n2 : Int)) = false := decide_eq_false (by omega)
  obtain ⟨i0, hi, hz0, hz1, hz2⟩ := info_parts Try.info_int
  clear hanc hfew hR hF h1 h2
  go_enter Try.func7, Try.ntmps7
  go_wp2_with fail
  refine HAN.out.mono ?_
  rintro e w0 ⟨rfl, hk0⟩
  have HK0 := Lib.hid hk0
  have HFW0 := Lib.hid (HFW.out w0 hk0)
  clear hk0 HAN HFW
  go_wp2_with fail
  refine HFW0.out.mono ?_
  rintro e w1 ⟨rfl, hk1⟩
  have HK1 : Hid (Keeps (fun _ => False) w w1) := HK0.out.trans hk1 (fun _ _ h => h)
  have HMD := Lib.hid (made_calls w1 a len cap R (HR.out.keep HK1.out) HFF.out)
  clear hk1 HK0 HFW0
  go_wp2_with fail
  refine HMD.out.mono ?_
  rintro e w5 ⟨B, rb, v, E, H, rfl, hM⟩
  obtain ⟨al, cl, rfl, -⟩ := ownsRow_slice hM.out.env.row
  have HWF := Lib.hid (hM.out.env.wf HFF.out)
  have HLI := Lib.hid (m2_listed hM.out HFF.out)
  have HHP := Lib.hid hM.out.env.heap
  have HNB := Lib.hid hM.out.env.new
  have HK5 : Hid (Keeps (fun _ => False) w w5) := HK1.out.trans hM.out.env.keeps (fun _ _ h => h)
  have HQC : Hid (∀ q, q < len → ∃ b, al = some ⟨b, 0, none⟩ ∧ w5.cell? ⟨b, q * 5, none⟩ = some (.int .i64 (mkA R q : Nat))) := by
    intro q hq
    have hrow : w5.ownsRow w1.heap.size 37 5 (.slice al len cl) (LE E len).length (lball (LE E len)) := by rw [LE_length]; exact hM.out.env.row
    obtain ⟨b, e, -, -, -, c0, -⟩ := lrow_at hrow (i := q) (by rw [LE_length]; exact hq)
    rw [LE_at E hq, hM.out.ea q hq] at c0
    exact ⟨b, e, c0⟩
  have hw1 : w.heap.size ≤ w1.heap.size := HK1.out.size
  have HS1 := Lib.hid ((H1.out.src.keep HK5.out (fun _ _ h => h)).alloc (.cells #[] 3))
  have HS2 : Hid (∀ wx, Keeps (fun _ => False) w wx → Src wx (.slice a2 n2 c2) (zl z2 n2)) := fun wx hk => H2.out.src.keep hk (fun _ _ h => h)
  have hzl1 := zl_length z1 n1
  have hzl2 := zl_length z2 n2
  have HB5 : Hid (∀ k, B.fp k → w1.heap.size ≤ k) := HNB.out
  clear hM HMD HR HK1
  go_wp2_with (at_builtin; first
    | (refine wpList_appN (b := w5.heap.size) (n := 0) (c := 0) (l := []) hi hz0 hz1 hz2 rfl _ _ rfl rfl rfl w5.heap.size (Ints.empty w5) (Nat.le_refl _) (by simp) HS1.out (by rw [hzl1]; simp; omega) ?_; intro g1 k1 w6 hI6 hg6 hk6; have HI6 : Hid (Ints w6 (Value.slice (some ⟨g1, 0, none⟩) n1 k1) (zl z1 n1)) := by { have h := hI6; rw [List.nil_append, zl_length] at h; exact h }; have HK6 : Hid (Keeps (fun _ => False) w5 w6) := ((Keeps.refl (fun _ => False) w5).alloc _).trans hk6 (fun k hk e => by omega); have HS6 := Lib.hid (HS2.out w6 (HK5.out.trans HK6.out (fun _ _ h => h))); have hs6 := HK6.out.size; clear hI6 hk6)
    | (refine wpList_appN (b := g1) (n := n1) (c := k1) (l := zl z1 n1) hi hz0 hz1 hz2 rfl _ _ rfl rfl rfl w5.heap.size HI6.out hg6 hs6 HS6.out (by simp [hzl1, hzl2]; omega) ?_; intro g2 k2 w7 hI7 hg7 hk7; have HI7 : Hid (Ints w7 (Value.slice (some ⟨g2, 0, none⟩) (n1 + n2) k2) (zl z1 n1 ++ zl z2 n2)) := by { have h := hI7; rw [List.length_append, zl_length, zl_length] at h; exact h }; have HK7 : Hid (Keeps (fun _ => False) w5 w7) := HK6.out.trans hk7 (fun k hk e => by omega); clear hI7 hk7))
  have HCL : Hid (∀ i, i < n1 + n2 → w7.cell? ⟨g2, i, none⟩ = some (.int .i64 ((zl z1 n1 ++ zl z2 n2).getD i 0))) := by
    intro i hi
    have h := HI7.out.cells rfl i (.int .i64 ((zl z1 n1 ++ zl z2 n2).getD i 0)) (by rw [List.getElem?_map, List.getD_eq_getElem?_getD, List.getElem?_eq_getElem (by simp [hzl1, hzl2]; omega)]; rfl)
    have e : (⟨g2, 0, none⟩ : Addr).add i = ⟨g2, i, none⟩ := by unfold Addr.add; split <;> simp_all
    rwa [e] at h
  have HLL : Hid ((zl z1 n1 ++ zl z2 n2).length = n1 + n2) := by show _ = _; rw [List.length_append, hzl1, hzl2]
  have HLT : Hid ((zl z1 n1 ++ zl z2 n2).take n1 = zl z1 n1) := by show _ = _; rw [List.take_append_of_le_length (by omega), List.take_of_length_le (by omega)]
  have HLW : Hid (∀ y ∈ zl z1 n1 ++ zl z2 n2, (Lit.int .i64 y).wf = true) := fun y hy => by
    rcases List.mem_append.1 hy with h | h
    · exact H1.out.fits y h
    · exact H2.out.fits y h
  have HK57 : Hid (Keeps (fun _ => False) w5 w7) := HK7
  clear hzl1 hzl2 HI7 HI6 HS1 HS2 HS6 H1 H2 HK6 HK7 hs6 hg6
  generalize zl z1 n1 ++ zl z2 n2 = L at *
  obtain ⟨n, hn⟩ : ∃ n, n = n1 + n2 := ⟨_, rfl⟩
  have hn12 : n1 ≤ n := by omega
  have hn200 : n ≤ 200 := by omega
  have hnI : (n1 : Int) + (n2 : Int) = (n : Int) := by omega
  rw [← hn] at HCL HLL
  try rw [← hn]
  rw [hnI]
  clear hn hnI
  have HST : Hid (Gather w7 w7 (.slice none 0 0) ((L.take 0).map (rv R len))) := Gather.start w7
  go_loopw [10, 12, 51] (fun v _ i wr => ∃ k : Nat, k ≤ n ∧ i = .int .i64 k ∧ Hid (Gather w7 wr v ((L.take k).map (rv R len)))) (fun _ _ i _ => n - (intOf i).toNat)
  case atStart => exact ⟨0, Nat.zero_le _, rfl, HST⟩
  case round =>
    clear HST
    obtain ⟨k, hk, rfl, hG⟩ := hrel
    by_cases hlt : k < n
    · have dk : decide (k < n) = true := decide_eq_true hlt
      have hck := hG.out.keeps.cell0 (HCL.out k hlt)
      have hkL : k < L.length := by rw [HLL.out]; exact hlt
      have HSN : Hid ((L.take k).map (rv R len) ++ [rv R len (L.getD k 0)] = (L.take (k + 1)).map (rv R len)) := by
        show _ = _
        rw [List.take_add_one, List.map_append, List.getElem?_eq_getElem hkL, List.getD_eq_getElem?_getD, List.getElem?_eq_getElem hkL]
        rfl
      have hfit := wf_lo (HLW.out (L.getD k 0) (by rw [List.getD_eq_getElem?_getD, List.getElem?_eq_getElem hkL]; exact List.getElem_mem hkL))
      have hll : ((L.take k).map (rv R len)).length ≤ 200 := by rw [List.length_map, List.length_take]; omega
      have HRV : Hid (∀ y, y = rv R len (L.getD k 0) → rv R len (L.getD k 0) = y) := fun y h => h.symm
      have hx1 := hfit.1
      have hx2 := hfit.2
      clear hfit hkL
      by_cases hx0 : L.getD k 0 < 0
      · have dx : decide (L.getD k 0 < 0) = true := decide_eq_true hx0
        by_cases hl0 : 0 < len
        · have dl : decide (0 < len) = true := decide_eq_true hl0
          have dl2 : decide ((0 : Int) < (len : Int)) = true := decide_eq_true (by omega)
          obtain ⟨q, hq⟩ : ∃ q, q = (-(L.getD k 0 + 1)).toNat % len := ⟨_, rfl⟩
          have hq1 : q < len := by rw [hq]; exact Nat.mod_lt _ hl0
          have e1 : (-(L.getD k 0 + 1)) % (len : Int) = (q : Int) := by
            rw [hq]
            have : (-(L.getD k 0 + 1)) = (((-(L.getD k 0 + 1)).toNat : Nat) : Int) := by omega
            rw [Int.natCast_emod, ← this]
          have e2 : (-(L.getD k 0 + 1)).tmod (len : Int) = (q : Int) := by rw [Int.tmod_eq_emod_of_nonneg (by omega)]; exact e1
          have dz0 : ((len : Int) == 0) = false := beq_eq_false_iff_ne.2 (by omega)
          obtain ⟨b, rfl, hcq5⟩ := HQC.out q hq1
          have hcq := (HK57.out.trans hG.out.keeps (fun _ _ h => h)).cell0 hcq5
          have hrv : rv R len (L.getD k 0) = (mkA R q : Nat) := by unfold rv; rw [if_pos ⟨hx0, hl0⟩, ← hq]
          rw [hrv] at HSN
          clear hq hcq5 hrv HRV
          generalize L.getD k 0 = x at *
          generalize mkA R q = aq at *
          generalize hl : (L.take k).map (rv R len) = l at *
          have HL := Lib.hid hl
          clear hl
          go_wp2_with (at_builtin; refine wpList_app1 _ rfl _ _ 29 rfl 3 i0 (.int .i64 0) 8 Try.underlying_ints hi hz0 hz1 hz2 rfl (by decide) _ l.length _ rfl (hG.out.ints.alloc _) _ 1 (.int .i64 (aq : Nat)) rfl (by simp) rfl (by omega) ?_; intro g cap w4 hO3 hK3 hg3)
          have HG := Lib.hid (hG.out.snoc hO3 hK3 hg3)
          clear hO3 hK3 hg3 hG
          go_wp2
          go_roundw
          case rel => exact ⟨k + 1, by omega, by go_num, by rw [← HSN.out]; exact HG⟩
          case measure => simp [intOf]; omega
        · have dl : decide (0 < len) = false := decide_eq_false hl0
          have dl2 : decide ((0 : Int) < (len : Int)) = false := decide_eq_false (by omega)
          have hrv : rv R len (L.getD k 0) = L.getD k 0 := by unfold rv; rw [if_neg (by omega)]
          rw [hrv] at HSN
          clear hrv HRV
          generalize L.getD k 0 = x at *
          generalize hl : (L.take k).map (rv R len) = l at *
          have HL := Lib.hid hl
          clear hl
          go_wp2_with (at_builtin; refine wpList_app1 _ rfl _ _ 29 rfl 3 i0 (.int .i64 0) 8 Try.underlying_ints hi hz0 hz1 hz2 rfl (by decide) _ l.length _ rfl (hG.out.ints.alloc _) _ 1 (.int .i64 x) rfl (by simp) rfl (by omega) ?_; intro g cap w4 hO3 hK3 hg3)
          have HG := Lib.hid (hG.out.snoc hO3 hK3 hg3)
          clear hO3 hK3 hg3 hG
          go_wp2
          go_roundw
          case rel => exact ⟨k + 1, by omega, by go_num, by rw [← HSN.out]; exact HG⟩
          case measure => simp [intOf]; omega
      · have dx : decide (L.getD k 0 < 0) = false := decide_eq_false hx0
        have hrv : rv R len (L.getD k 0) = L.getD k 0 := by unfold rv; rw [if_neg (by omega)]
        rw [hrv] at HSN
        clear hrv HRV
        generalize L.getD k 0 = x at *
        generalize hl : (L.take k).map (rv R len) = l at *
        have HL := Lib.hid hl
        clear hl
        go_wp2_with (at_builtin; refine wpList_app1 _ rfl _ _ 29 rfl 3 i0 (.int .i64 0) 8 Try.underlying_ints hi hz0 hz1 hz2 rfl (by decide) _ l.length _ rfl (hG.out.ints.alloc _) _ 1 (.int .i64 x) rfl (by simp) rfl (by omega) ?_; intro g cap w4 hO3 hK3 hg3)
        have HG := Lib.hid (hG.out.snoc hO3 hK3 hg3)
        clear hO3 hK3 hg3 hG
        go_wp2
        go_roundw
        case rel => exact ⟨k + 1, by omega, by go_num, by rw [← HSN.out]; exact HG⟩
        case measure => simp [intOf]; omega
    · obtain rfl : k = n := by omega
      have dk : decide (k < k) = false := by simp
      have hlen2 : ((L.take k).map (rv R len)).length = k := by rw [List.length_map, List.length_take, HLL.out]; omega
      have hLk : L.take k = L := List.take_of_length_le (by rw [HLL.out]; omega)
      have HKG : Hid (Keeps (fun _ => False) w5 wr) := HK57.out.trans hG.out.keeps (fun _ _ h => h)
      have HHR := Lib.hid (HHP.out.keep HKG.out (fun _ _ h => h))
      have hsrc := hG.out.ints.src
      have hfa : ∀ y ∈ (L.take n1).map (rv R len), (Lit.int .i64 y).wf = true := rv_fits HFF.out fun y hy => HLW.out y (List.mem_of_mem_take hy)
      have hfb : ∀ y ∈ L.map (rv R len), (Lit.int .i64 y).wf = true := rv_fits HFF.out HLW.out
      have hla : ((L.take n1).map (rv R len)).length = n1 := by rw [List.length_map, List.length_take, HLL.out]; omega
      have hlb : (L.map (rv R len)).length = k := by rw [List.length_map, HLL.out]
      rw [hLk] at hlen2 hsrc
      have HMN : Hid (∀ y, H.Live ((L.take n1).map (rv R len)) y → H.Live (L.map (rv R len)) y) := fun y h => live_mono (fun x hx => by
        rw [List.mem_map] at hx ⊢
        obtain ⟨z, hz, e⟩ := hx
        exact ⟨z, List.mem_of_mem_take hz, e⟩) h
      have HRG : Hid (∀ (xv : Value) (rl : List Int), (∀ y ∈ rl, (Lit.int .i64 y).wf = true) → rl.length ≤ 10000000 → Src wr xv rl → (∀ ad n c, xv = .slice (some ad) n c → ad.spot = none) → ∀ wx, Hid (Keeps (fun _ => False) wr wx) → Calls Try.prog 17 #[.pointer (some ⟨B.h, 0, none⟩), xv] wx fun e w' => ∃ a c l, e = .returned (.slice a l.length c) ∧ Hid (Made wx w' a l ∧ l.Pairwise (· < ·) ∧ ∀ y, y ∈ l ↔ H.Live rl y)) := by
        intro xv rl h1 h2 h3 h4 wx hk
        exact reached_calls (HHR.out.keep hk.out (fun _ _ h => h)) HWF.out (h3.keep hk.out (fun _ _ h => h)) h4 h2 h1
      have HSRC : ∃ xa xb : Value, True := ⟨.bool true, .bool true, trivial⟩
      have HCO : Hid (∀ wx, Hid (Keeps (fun _ => False) wr wx) → Calls Try.prog 18 #[.pointer (some ⟨B.h, 0, none⟩), .slice none 0 0] wx fun e w' => e = .returned (.int .i64 len) ∧ ∃ H', Hid (HeapAt w' B H' ∧ HS.Listed H' 128 0 (mkA R) ∧ Keeps (fun _ => False) w w')) := by
        intro wx hk
        refine (collect_calls (HHR.out.keep hk.out (fun _ _ h => h)) HWF.out (.inl ⟨rfl, rfl⟩) (fun ad n c h => by cases h) (by simp) (fun y hy => by simp at hy)).mono ?_
        rintro e w' ⟨c, rfl, H', hm⟩
        have hs := swept_nil HLI.out hm.out.2.1
        obtain ⟨rfl, hl'⟩ := hs
        refine ⟨rfl, H', hm.out.1, hl', (HK5.out.trans (HKG.out.trans hk.out (fun _ _ h => h)) (fun _ _ h => h)).trans hm.out.2.2 (fun b hb hw => ?_)⟩
        have := HNB.out b (.inr hw)
        omega
      rcases hG.out.ints with ⟨rfl, hnil⟩ | ⟨g, cg, cur, rfl, hgh, hg1, hg2, hg3, hg4⟩
      case' inl =>
        rw [hLk, hlb] at hnil
        subst hnil
        obtain rfl : n1 = 0 := by omega
        have HRA := Lib.hid (HRG.out (.slice none 0 0) ((L.take 0).map (rv R len)) hfa (by omega) (.inl ⟨rfl, by simp⟩) (fun ad n c h => by cases h))
        have HRB := Lib.hid (HRG.out (.slice none 0 0) (L.map (rv R len)) hfb (by omega) (.inl ⟨rfl, List.eq_nil_of_length_eq_zero hlb⟩) (fun ad n c h => by cases h))
      case' inr =>
        rw [hLk, hlb] at hsrc hg1
        rw [hLk, hlb]
        have hcells : ∀ j u, ((L.map (rv R len)).map (Value.int .i64))[j]? = some u → wr.cell? ((⟨g, 0, none⟩ : Addr).add j) = some u := by
          rcases hsrc with ⟨e, -⟩ | ⟨ad, c, e, h⟩
          · cases e
          · cases e
            exact h
        have HRA := Lib.hid (HRG.out (.slice (some ⟨g, 0, none⟩) n1 cg) ((L.take n1).map (rv R len)) hfa (by omega) (.inr ⟨⟨g, 0, none⟩, cg, by rw [hla], fun j u hj => hcells j u (by
          rw [List.map_map, List.getElem?_map] at hj ⊢
          rw [List.getElem?_take] at hj
          split at hj
          · exact hj
          · simp at hj)⟩) (fun ad n c h => by cases h; rfl))
        have HRB := Lib.hid (HRG.out (.slice (some ⟨g, 0, none⟩) k cg) (L.map (rv R len)) hfb (by omega) (.inr ⟨⟨g, 0, none⟩, cg, by rw [hlb], hcells⟩) (fun ad n c h => by cases h; rfl))
        have hnc : (n1 : Int) ≤ (cg : Int) := by omega
        have hnc0 : (0 : Int) ≤ (n1 : Int) := by omega
        clear hcells hgh hg2 hg3 hg4
      all_goals
        clear hG hsrc hfa hfb hla hlb hlen2 hLk HRG HHR HKG HQC HCL HLL HLT HLW hn12 hn200
        obtain ⟨wo, rfl⟩ : ∃ wo : World, wo = wr := ⟨_, rfl⟩
        go_wp2_with fail
        refine (HRA.out wo (Keeps.refl _ wo)).mono ?_
        rintro e w8 ⟨aa, ca, la, rfl, ha⟩
        have HK8 : Hid (Keeps (fun _ => False) wo w8) := ha.out.1.keeps
        go_wp2_with fail
        refine (HRB.out w8 HK8).mono ?_
        rintro e w9 ⟨ab, cb, lb, rfl, hb⟩
        have HK9 : Hid (Keeps (fun _ => False) wo w9) := HK8.out.trans hb.out.1.keeps (fun _ _ h => h)
        have HSUB : Hid (∀ y ∈ la, y ∈ lb) := fun y hy => (hb.out.2.2 y).2 (HMN.out y ((ha.out.2.2 y).1 hy))
        have HLA : Hid (Arg w9 aa la.length (fun i => .int .i64 (la.getD i 0))) := ha.out.1.arg.keep hb.out.1.keeps
        have HLB : Hid (Arg w9 ab lb.length (fun i => .int .i64 (lb.getD i 0))) := hb.out.1.arg
        have hsa : la.length ≤ 40 := Nat.le_trans (live_short HLI.out ha.out.2.1 ha.out.2.2) hlen
        have hsb : lb.length ≤ 40 := Nat.le_trans (live_short HLI.out hb.out.2.1 hb.out.2.2) hlen
        clear ha hb HRA HRB HMN
        have HS9 : Hid (Keeps (fun _ => False) w9 w9) := Keeps.refl _ _
        go_wp2
        go_loopw [88] (fun i wr => ∃ t : Nat, t ≤ la.length ∧ i = .int .i64 t ∧ Hid (Keeps (fun _ => False) w9 wr)) (fun i _ => la.length - (intOf i).toNat)
        case' atStart => exact ⟨0, Nat.zero_le _, rfl, HS9⟩
        case' round =>
          clear HS9
          obtain ⟨t, ht, rfl, hk9⟩ := hrel
          rcases Nat.lt_or_ge t la.length with hlt | hlt
          case' inl =>
            have dt : decide (t < la.length) = true := decide_eq_true hlt
            have hx : ∃ b o, aa = some ⟨b, o, none⟩ ∧ wr.cell? ⟨b, o + t, none⟩ = some (.int .i64 (la.getD t 0)) := (HLA.out.keep hk9.out).get hlt
            obtain ⟨b, o, rfl, hx⟩ := hx
            have HIN : Hid (la.getD t 0 ∈ lb) := HSUB.out _ (by rw [List.getD_eq_getElem?_getD, List.getElem?_eq_getElem hlt]; exact List.getElem_mem hlt)
            generalize la.getD t 0 = x at *
            have HX := Lib.hid hx
            obtain ⟨wp, rfl⟩ : ∃ wp : World, wp = wr := ⟨_, rfl⟩
            have HS10 : Hid (Keeps (fun _ => False) w9 wp) := hk9
            go_wp2
            go_loopw [17, 94] (fun th j wr => ∃ s : Nat, s ≤ lb.length ∧ j = .int .i64 s ∧ th = .bool (decide (x ∈ lb.take s)) ∧ Hid (Keeps (fun _ => False) w9 wr)) (fun _ j _ => lb.length - (intOf j).toNat)
            case' atStart => exact ⟨0, Nat.zero_le _, rfl, rfl, HS10⟩
            case' round =>
              clear HS10 hx HX
              obtain ⟨s, hs, rfl, rfl, hk10⟩ := hrel
              rcases Nat.lt_or_ge s lb.length with hls | hls
              case' inl =>
                have ds : decide (s < lb.length) = true := decide_eq_true hls
                have hy : ∃ b o, ab = some ⟨b, o, none⟩ ∧ wr.cell? ⟨b, o + s, none⟩ = some (.int .i64 (lb.getD s 0)) := (HLB.out.keep hk10.out).get hls
                obtain ⟨b', o', rfl, hy⟩ := hy
                have HTK : Hid (∀ v, x ∈ lb.take (s + 1) ↔ (x ∈ lb.take s ∨ (lb.getD s 0 = v ∧ x = v) ∨ x = lb.getD s 0)) := by
                  intro v
                  rw [List.take_add_one, List.getElem?_eq_getElem hls, List.mem_append, List.getD_eq_getElem?_getD, List.getElem?_eq_getElem hls]
                  simp
                  constructor
                  · rintro (h | h)
                    · exact .inl h
                    · exact .inr (.inr h)
                  · rintro (h | ⟨h1, h2⟩ | h)
                    · exact .inl h
                    · right; rw [h2, ← h1]
                    · exact .inr h
                generalize lb.getD s 0 = y at *
                by_cases hm : x ∈ lb.take s
                case' pos =>
                  have hnx : decide (x ∈ lb.take (s + 1)) = true := decide_eq_true ((HTK.out 0).2 (.inl hm))
                  have hmb : decide (x ∈ lb.take s) = true := decide_eq_true hm
                  rw [hmb]
                  clear hm hmb HTK
                  go_wp2
                  go_roundw
                  case' rel => exact ⟨s + 1, by omega, by go_num, by rw [hnx], hk10⟩
                  case' measure => (simp [intOf]; omega)
                case' neg =>
                  have hmb : decide (x ∈ lb.take s) = false := decide_eq_false hm
                  rw [hmb]
                  have hnx : decide (x ∈ lb.take (s + 1)) = decide (x = y) := by
                    apply decide_eq_decide.2
                    rw [HTK.out 0]
                    constructor
                    · rintro (h | ⟨h1, h2⟩ | h)
                      · exact absurd h hm
                      · rw [h1, h2]
                      · exact h
                    · exact fun h => .inr (.inr h)
                  clear hm hmb HTK
                  by_cases hxy : x = y
                  case' pos =>
                    have e1 : decide (x = y) = true := decide_eq_true hxy
                    have e2 : (x == y) = true := beq_iff_eq.2 hxy
                  case' neg =>
                    have e1 : decide (x = y) = false := decide_eq_false hxy
                    have e2 : (x == y) = false := beq_eq_false_iff_ne.2 hxy
                  all_goals
                    have HNX := Lib.hid hnx
                    have HE1 := Lib.hid e1
                    clear hxy hnx e1
                    go_wp2
                    go_roundw
                    case' rel => exact ⟨s + 1, by omega, by go_num, by rw [HNX.out, HE1.out], hk10⟩
                    case' measure => (simp [intOf]; omega)
              case' inr =>
                obtain rfl : s = lb.length := by omega
                have ds : decide (lb.length < lb.length) = false := by simp
                have hmb : decide (x ∈ lb.take lb.length) = true := decide_eq_true (by rw [List.take_length]; exact HIN.out)
                rw [hmb]
                clear hmb HIN
                go_wp2
                go_roundw
                case' rel => exact ⟨t + 1, by omega, by go_num, hk10⟩
                case' measure => (simp [intOf]; omega)
          case' inr =>
            obtain rfl : t = la.length := by omega
            have dt : decide (la.length < la.length) = false := by simp
            have hk11 : Hid (Keeps (fun _ => False) wo wr) := HK9.out.trans hk9.out (fun _ _ h => h)
            have HC := Lib.hid (HCO.out wr hk11)
            clear HCO HK9 HSUB HLA HLB hk9
            go_wp2_with fail
            refine HC.out.mono ?_
            rintro e w12 ⟨rfl, H', h12⟩
            have HSP := Lib.hid (spans_calls h12.out.1 h12.out.2.1.wf)
            rw [h12.out.2.1.rest_done.1] at HSP
            obtain ⟨at_, H'', hal⟩ := room_127 h12.out.2.1
            have HAL := Lib.hid (alloc_yes h12.out.1 h12.out.2.1.wf hal)
            clear hal HC
            go_wp2_with fail
            refine HSP.out.mono ?_
            rintro e w13 ⟨rfl, rfl⟩
            go_wp2_with fail
            refine HAL.out.mono ?_
            rintro e w14 ⟨rfl, -, hk14, -⟩
            have HKF : Hid (Keeps (fun _ => False) w w14) := h12.out.2.2.trans hk14 (fun b hb hw => by have := HNB.out b (.inr hw); omega)
            clear hk14 HAL HSP
            go_wp2
            go_ret
            exact ⟨rfl, HKF.out⟩
end Frees
end Go.Proofs.Ytnflgjhgegggcaa
