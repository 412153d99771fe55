/-
  The walk of HeapFills.
-/
import Derived.Test.YtchoioajalpfoaaAnc
import Derived.Test.YtchoioajalpfoaaW8
import Derived.Test.YtchoioajalpfoaaFill
namespace Go.Proofs.Ytchoioajalpfoaa
open Go.RowKit

theorem Own.slice {w : World} {T : TypeId} {v : Value} {n : Nat} {f : Nat → Value} (h : Own w T v n f) : ∃ a cap, v = .slice a n cap := by
  rcases h.shape with ⟨e, hn⟩ | ⟨b, cap, e, _⟩
  · exact ⟨none, 0, by rw [e, hn]⟩
  · exact ⟨_, _, e⟩
theorem Own.at_ {w : World} {T : TypeId} {a : Option Addr} {n cap : Nat} {f : Nat → Value} (h : Own w T (.slice a n cap) n f) (hn : 0 < n) : ∃ b, a = some ⟨b, 0, none⟩ ∧ ∀ i, i < n → w.cell? ⟨b, i, none⟩ = some (f i) := by
  obtain ⟨b, cap', e, _, _, h1, _⟩ := h.some_shape hn
  injection e with e1 e2 e3
  exact ⟨b, e1, h1⟩
namespace Fills
def F1 (w wr : World) (B : HB) (P : Nat → HS → Prop) (A : Nat → Nat) (k : Nat) (v : Value) : Prop :=
  ∃ H, P k H ∧ Fresh w wr B H ∧ Own wr 3 v k (fun j => .int .i64 (A j : Nat)) ∧ ∀ g, v.ownBlock = some g → ¬ B.fp g ∧ w.heap.size ≤ g

theorem F1.step {w wr wa wb : World} {B : HB} {P : Nat → HS → Prop} {A : Nat → Nat} {k : Nat} {v : Value} {H H' : HS} {g cap : Nat} {o : Obj} (hf : Fresh w wr B H) (hs : P (k + 1) H')
    (hv : ∀ g, v.ownBlock = some g → ¬ B.fp g ∧ w.heap.size ≤ g) (hA : HeapAt wa B H') (hK : Keeps B.wr wr wa) (hb : Own wb 3 (.slice (some ⟨g, 0, none⟩) (k + 1) cap) (k + 1) (setf (fun j => .int .i64 (A j : Nat)) k (.int .i64 (A k : Nat))))
    (hk : Keeps (fun b => v.ownBlock = some b) (wa.alloc o) wb) (hg : v.ownBlock = some g ∨ g = (wa.alloc o).heap.size) : F1 w wb B P A (k + 1) (.slice (some ⟨g, 0, none⟩) (k + 1) cap) := by
  have h1 := hf.on hA hK
  have hlt := hA.lt
  refine ⟨H', hs, ⟨?_, ?_, h1.2.2⟩, hb.congr (fun i hi => ?_), ?_⟩
  · exact (hA.keep ((Keeps.refl (fun _ => False) _).alloc o) (fun _ _ h => h)).keep hk (fun b hb hvb => (hv b hvb).1 hb)
  · exact (h1.2.1.alloc o).trans hk (fun b hb hvb => by have := (hv b hvb).2; omega)
  · unfold setf; split
    · rename_i e; rw [e]
    · rfl
  · intro g' hg'
    simp [Value.ownBlock] at hg'
    subst hg'
    rcases hg with e | e
    · exact hv g e
    · have hsz : wa.heap.size ≤ g := by rw [e]; simp
      refine ⟨fun hb => ?_, ?_⟩
      · have := hlt g hb; omega
      · have := h1.2.1.size; omega

structure F2 (w wr : World) (B : HB) (N n : Nat) (A C : Nat → Nat) (k : Nat) (v : Value) (H : HS) : Prop where
  rest : HS.Rest H N n k C
  fresh : Fresh w wr B H
  own : Own wr 3 v n (fun j => .int .i64 (A j : Nat))
  hv : ∀ g, v.ownBlock = some g → ¬ B.fp g ∧ w.heap.size ≤ g

theorem F2.step {w wr w2 : World} {B : HB} {N n k : Nat} {A C : Nat → Nat} {v : Value} {H : HS} (h : F2 w wr B N n A C k v H) (hr : HS.Rest (H.freeAt (C k)) N n (k + 1) C) (hA : HeapAt w2 B (H.freeAt (C k))) (hK : Keeps B.wr wr w2) :
    F2 w w2 B N n A C (k + 1) v (H.freeAt (C k)) :=
  ⟨hr, h.fresh.on hA hK, h.own.keep hK (fun b hb hw => (h.hv b hb).1 (.inr hw)), h.hv⟩

theorem key (x W : Nat) (h1 : 1 ≤ x) (h2 : x ≤ 1000) (h3 : 128 ≤ W) (h4 : W ≤ 4096) : ∃ most A P, HS.Fill x (W / 64) most A P ∧ P 0 (HS.new W) ∧ most ≤ 4096 ∧ (64 < x → most = (W / 64 - 1) / ((x + 63) / 64)) ∧ (x ≤ 64 → most = (W / 64 - 1) * (64 / HS.classOf x)) := by
  have hw := new_wf h3 (by omega : W ≤ 1048576)
  by_cases hx : x ≤ 64
  · have hp := HS.cl_pos (HS.cl_classOf x hx).1
    refine ⟨_, _, _, HS.fill_small h1 hx rfl, HS.new_seq h3 hw, ?_, fun h => by omega, fun _ => rfl⟩
    have : (W / 64 - 1) * (64 / HS.classOf x) ≤ 64 * 32 := Nat.mul_le_mul (by omega) (by omega)
    omega
  · refine ⟨_, _, _, HS.fill_great (q := (x + 63) / 64) (by omega) (by omega) rfl (by omega), HS.new_run h3 hw, ?_, fun _ => rfl, fun h => by omega⟩
    have := Nat.div_le_self (W / 64 - 1) ((x + 63) / 64)
    omega

set_option maxRecDepth 100000 in
set_option maxHeartbeats 4000000 in
theorem walk (words n : Int) (odd : Bool) (w : World) :
    Calls Try.prog 4 #[.int .i64 words, .int .i64 n, .bool odd] w fun e w' => e = .returned (.bool true) ∧ Below w.heap.size w w' := by
  have hanc := Lib.hid (anchor_calls w)
  by_cases hg : words < 128 ∨ 4096 < words ∨ n < 1 ∨ 1000 < n
  · obtain ⟨d1, d2, d3, d4, e1, e2, e3, e4, hd⟩ : ∃ d1 d2 d3 d4 : Bool, decide (words < 128) = d1 ∧ decide ((4096 : Int) < words) = d2 ∧ decide (n < 1) = d3 ∧ decide ((1000 : Int) < n) = d4 ∧ (d1 || d2 || d3 || d4) = true := by
      refine ⟨_, _, _, _, rfl, rfl, rfl, rfl, ?_⟩
      simp only [Bool.or_eq_true, decide_eq_true_eq]
      omega
    clear hg
    have fin : Hid (∀ w', Keeps (fun _ => False) w w' → Below w.heap.size w w') := fun w' h => h.below (fun _ _ h => h)
    cases d1
    · cases d2
      · cases d3
        · cases d4
          · cases hd
          · clear hd
            go_enter Try.func4, Try.ntmps4
            go_wp2_with (go_at_call 8; refine hanc.out.mono ?_; rintro e w0 ⟨rfl, hK0⟩; have HK0 := Lib.hid hK0; clear hK0)
            go_ret
            exact ⟨rfl, fin.out _ (by assumption : Hid _).out⟩
        · clear hd e4
          go_enter Try.func4, Try.ntmps4
          go_wp2_with (go_at_call 8; refine hanc.out.mono ?_; rintro e w0 ⟨rfl, hK0⟩; have HK0 := Lib.hid hK0; clear hK0)
          go_ret
          exact ⟨rfl, fin.out _ (by assumption : Hid _).out⟩
      · clear hd e4 e3
        go_enter Try.func4, Try.ntmps4
        go_wp2_with (go_at_call 8; refine hanc.out.mono ?_; rintro e w0 ⟨rfl, hK0⟩; have HK0 := Lib.hid hK0; clear hK0)
        go_ret
        exact ⟨rfl, fin.out _ (by assumption : Hid _).out⟩
    · clear hd e4 e3 e2
      go_enter Try.func4, Try.ntmps4
      go_wp2_with (go_at_call 8; refine hanc.out.mono ?_; rintro e w0 ⟨rfl, hK0⟩; have HK0 := Lib.hid hK0; clear hK0)
      go_ret
      exact ⟨rfl, fin.out _ (by assumption : Hid _).out⟩
  · obtain ⟨W, rfl⟩ := Int.eq_ofNat_of_zero_le (show 0 ≤ words by omega)
    obtain ⟨x, rfl⟩ := Int.eq_ofNat_of_zero_le (show 0 ≤ n by omega)
    have g1 : decide ((W : Int) < 128) = false := decide_eq_false (by omega)
    have g2 : decide ((4096 : Int) < (W : Int)) = false := decide_eq_false (by omega)
    have g3 : decide ((x : Int) < 1) = false := decide_eq_false (by omega)
    have g4 : decide ((1000 : Int) < (x : Int)) = false := decide_eq_false (by omega)
    have hW1 : 128 ≤ W := by omega
    have hW2 : W ≤ 4096 := by omega
    have hx1 : 1 ≤ x := by omega
    have hx2 : x ≤ 1000 := by omega
    obtain ⟨most, A, P, hF, hP0, hm, hm1, hm2⟩ := key x W hx1 hx2 hW1 hW2
    have HF := Lib.hid hF
    have HP0 := Lib.hid hP0
    have HM2 := Lib.hid hm2
    have HM1 := Lib.hid hm1
    clear hF hP0 hg hm1 hm2
    obtain ⟨N, hN⟩ : ∃ N, N = W / 64 := ⟨_, rfl⟩
    obtain ⟨S, hS⟩ : ∃ S, S = N - 1 := ⟨_, rfl⟩
    obtain ⟨q, hq⟩ : ∃ q, q = (x + 63) / 64 := ⟨_, rfl⟩
    have i1 : (W : Int) / 64 = (N : Int) := by omega
    have i2 : (N : Int) - 1 = (S : Int) := by omega
    have i3 : ((x : Int) + 63) / 64 = (q : Int) := by omega
    have hq1 : (1 : Int) ≤ (q : Int) := by omega
    have hS64 : (S : Int) ≤ 64 := by omega
    have hN2 : 2 ≤ N := by omega
    rw [← hN] at HF HM1 HM2
    have HSn := Lib.hid hS
    have HQ := Lib.hid hq
    clear hN hS hq
    obtain ⟨i0, hi, hz0, hz1, hz2⟩ := info_parts Try.info_int
    go_enter Try.func4, Try.ntmps4
    go_wp2_with fail
    refine hanc.out.mono ?_
    rintro e w0 ⟨rfl, hK0⟩
    have HK0 := Lib.hid hK0
    clear hK0 hanc
    go_wp2_with fail
    refine (new_calls w0 W (by omega) (by omega)).mono ?_
    rintro e w1 ⟨B, rfl, hf⟩
    rcases Nat.lt_or_ge 64 x with hx64 | hx64
    case' inl =>
      have hdx : decide ((x : Int) ≤ 64) = false := decide_eq_false (by omega)
      have hsd : (S : Int) / (q : Int) = (most : Int) := by rw [HM1.out hx64, ← HQ.out, ← HSn.out]; norm_cast
      clear HM1 HM2 HQ HSn
      go_wp2
      clear hsd i3
    case' inr =>
      have hdx : decide ((x : Int) ≤ 64) = true := decide_eq_true (by omega)
      have hcl := HS.cl_classOf x hx64
      have HCL := Lib.hid hcl.1
      have hcp := HS.cl_pos hcl.1
      have hcp1 := hcp.1
      have hcp2 := hcp.2.1
      have hcp3 := hcp.2.2.1
      have hcp4 := hcp.2.2.2.1
      have hq1' : q = 1 := by rw [HQ.out]; omega
      have i3' : ((x : Int) + 63) / 64 = 1 := by omega
      obtain ⟨m, hm64⟩ : ∃ m, m = 64 / HS.classOf x := ⟨_, rfl⟩
      have i4 : (64 : Int) / (HS.classOf x : Int) = (m : Int) := by rw [hm64]; norm_cast
      have i5 : (S : Int) * (m : Int) = (most : Int) := by rw [HM2.out hx64, ← hm64, ← HSn.out]; norm_cast
      rw [← hm64] at hcp3 hcp4
      clear HM1 HM2 HQ HSn hcp hcl hm64 i3
      subst hq1'
      go_wp2
      go_loop [10] (fun c => ∃ k : Nat, c = .int .i64 k ∧ Hid (HS.Cl (k : Int)) ∧ k ≤ HS.classOf x) (fun c => 64 - (intOf c).toNat)
      case' atStart => exact ⟨2, rfl, .inl rfl, by unfold HS.classOf; (repeat' split) <;> omega⟩
      case' round =>
        obtain ⟨k, rfl, hk, hkle⟩ := hrel
        have hp := HS.cl_pos hk.out
        obtain ⟨hp1, hp2, -, -, -⟩ := hp
        rcases Nat.lt_or_ge k x with hlt | hlt
        case' inl =>
          have hs := class_step hk.out hlt hx64 hkle
          have HS1 := Lib.hid hs.1
          have hs2 := hs.2
          have hk32 := HS.cl_pos hs.1
          have hk32' := hk32.2.1
          clear hs hk32
          go_wp2
          go_round
          case' rel => exact ⟨2 * k, by go_num, HS1.out, hs2⟩
          case' measure => (simp [intOf]; omega)
        case' inr =>
          have hc := class_done hk.out (by omega) hkle
          rw [hc] at i4
          clear hc hkle HCL hcp1 hcp2
          go_wp2
          clear i4 i5 i3'
    all_goals
      go_loopw [11, 12, 13, 14] (fun v k _ _ wr => ∃ j : Nat, j ≤ most ∧ k = .int .i64 j ∧ Hid (F1 w0 wr B P A j v)) (fun _ k _ _ _ => most - (intOf k).toNat)
      case' atStart => exact ⟨0, Nat.zero_le _, rfl, ⟨_, HP0.out, hf.out, Own.nil _ _ _, fun g hg => by simp [Value.ownBlock] at hg⟩⟩
      case' round =>
        obtain ⟨j, hj, rfl, hR⟩ := hrel
        rcases Nat.lt_or_ge j most with hlt | hlt
        case' inl =>
          obtain ⟨H, hs, hfr, hown, hvb⟩ := hR.out
          obtain ⟨H', hal, hs'⟩ := HF.out.step j H hs hlt
          have HWF := Lib.hid (HF.out.blocks j H hs hj).1
          have HS' := Lib.hid hs'
          have HFR := Lib.hid hfr
          have HOWN := Lib.hid hown
          have HV := Lib.hid hvb
          have HAL := Lib.hid hal
          clear hR hs hfr hown hvb hal hs'
          go_wp2_with fail
          refine (alloc_yes HFR.out.1 HWF.out HAL.out).mono ?_
          rintro e w2 ⟨rfl, hA, hK, -⟩
          have HA := Lib.hid hA
          have HK := Lib.hid hK
          have HO2 := Lib.hid (HOWN.out.keep hK (fun b hb hw => (HV.out b hb).1 (.inr hw)))
          clear hA hK
          go_wp2_with (at_builtin; refine wpList_app1 _ rfl _ _ 22 rfl 3 i0 (.int .i64 0) 8 Try.underlying_ints hi hz0 hz1 hz2 rfl (by decide) _ j _ rfl (HO2.out.alloc _) _ 1 (.int .i64 (A j : Nat)) rfl (by simp) rfl (by omega) ?_; intro g cap w3 hO3 hK3 hg3)
          have hR' := F1.step HFR.out HS'.out HV.out HA.out HK.out hO3 hK3 hg3
          have HR' := Lib.hid hR'
          clear hO3 hK3 hg3 hR'
          go_wp2
          go_roundw
          case' rel => exact ⟨j + 1, by omega, by go_num, HR'.out⟩
          case' measure => (simp [intOf]; omega)
        case' inr =>
          obtain rfl : j = most := by omega
          obtain ⟨H, hs, hfr, hown, hvb⟩ := hR.out
          obtain ⟨hwf, hHn, -⟩ := HF.out.blocks j H hs hj
          have HWF := Lib.hid hwf
          have HAL := Lib.hid (HF.out.full H hs)
          have HREST := Lib.hid (HF.out.rest hs odd)
          have HINJ := Lib.hid (HF.out.flip_inj odd)
          have HFR := Lib.hid hfr
          have HOWN := Lib.hid hown
          have HV := Lib.hid hvb
          clear hR hs hfr hown hvb hwf hHn HF HP0 hf
          go_wp2_with fail
          refine (alloc_no HFR.out.1 HWF.out HAL.out).mono ?_
          rintro e w2 ⟨rfl, q2, rfl⟩
          obtain ⟨al, capl, rfl⟩ := HOWN.out.slice
          have H2 : Hid (F2 w0 (wr.drewN q2) B N j A (fun i => A (HS.flip odd j i)) 0 (.slice al j capl) H) := ⟨HREST.out, HFR.out.drewN _, HOWN.out.drewN _, HV.out⟩
          clear HREST HFR HOWN HV HAL HWF
          obtain ⟨wo, rfl⟩ : ∃ wo : World, wo = wr := ⟨_, rfl⟩
          generalize wo.drewN q2 = w5 at *
          go_wp2
          go_loopw [17, 18, 84] (fun _ _ i wr => ∃ k : Nat, k ≤ j ∧ i = .int .i64 k ∧ ∃ H, Hid (F2 w0 wr B N j A (fun i => A (HS.flip odd j i)) k (.slice al j capl) H)) (fun _ _ i _ => j - (intOf i).toNat)
          case' atStart => exact ⟨0, Nat.zero_le _, rfl, H, H2.out⟩
          case' round =>
            clear H2
            obtain ⟨k, hk, rfl, H, hF2⟩ := hrel
            rcases Nat.lt_or_ge k j with hkj | hkj
            case' inl =>
              obtain ⟨b, rfl, hcell⟩ := hF2.out.own.at_ (by omega)
              have hst := hF2.out.rest.step hkj (fun i i' h1 h2 h3 => HINJ.out i i' h1 h2 h3)
              have hck := hcell k hkj
              have hck2 := hcell (j - 1 - k) (by omega)
              have HRM : Hid (H.roomI ((A (HS.flip odd j k) : Nat) : Int) ≠ 0) := by
                show _ ≠ _
                unfold HS.roomI
                rw [if_neg (by omega), Int.toNat_natCast]
                exact hst.1
              have HR2 := Lib.hid hst.2
              have HFR := Lib.hid (free_calls hF2.out.fresh.1 hF2.out.rest.wf _ HRM.out)
              have HF2 := hF2
              clear hst hcell hF2 HRM
              have hix : (0 : Int) ≤ (j : Int) - 1 - (k : Int) := by omega
              have hix2 : (j : Int) - 1 - (k : Int) < (j : Int) := by omega
              cases odd
              case' false =>
                go_wp2_with fail
                refine HFR.out.mono ?_
              case' true =>
                go_wp2_with fail
                refine HFR.out.mono ?_
              all_goals
                rintro e w7 ⟨rfl, hA, hK, -⟩
                rw [Int.toNat_natCast] at hA
                have HN := Lib.hid (HF2.out.step HR2.out hA hK)
                clear hA hK
                go_wp2
                go_roundw
                case' rel => exact ⟨k + 1, by omega, by go_num, _, HN.out⟩
                case' measure => (simp [intOf]; omega)
            case' inr =>
              obtain rfl : k = j := by omega
              obtain ⟨hs1, hs2⟩ := hF2.out.rest.done
              have hsp := spans_calls hF2.out.fresh.1 hF2.out.rest.wf
              rw [hs1] at hsp
              have HSP := Lib.hid hsp
              have hbl := blocks_calls hF2.out.fresh.1 hF2.out.rest.wf
              rw [hs2] at hbl
              have HBL := Lib.hid hbl
              have HF2 := hF2
              clear hs1 hs2 hsp hbl hF2
              have hNS : ((N - 1 : Nat) : Int) = (S : Int) := by omega
              go_wp2_with fail
              refine HSP.out.mono ?_
              rintro e w7 ⟨rfl, rfl⟩
              have hbq : (((N - 1 : Nat) : Int) == (S : Int)) = true := beq_iff_eq.2 hNS
              go_wp2_with fail
              refine HBL.out.mono ?_
              rintro e w8 ⟨ab, cb, rfl, hm⟩
              go_wp2
              go_ret
              exact ⟨rfl, ((HK0.out.trans HF2.out.fresh.2.1 (fun _ _ h => h)).trans hm.out.keeps (fun _ _ h => h)).below (fun _ _ h => h)⟩
end Fills
end Go.Proofs.Ytchoioajalpfoaa
