/-
  The walk of HeapWords.
-/
import Derived.Test.YtchoioajalpfoaaFills
import Derived.Test.YtchoioajalpfoaaGone
namespace Go.Proofs.Ytchoioajalpfoaa
open Go.RowKit

namespace WordsLaw
/-- The list of what was made so far. -/
structure L1 (w wr : World) (B : HB) (m : Nat) (L : Nat → Nat) (v : Value) (H : HS) : Prop where
  listed : HS.Listed H 64 m L
  fresh : Fresh w wr B H
  own : Own wr 3 v m (fun j => .int .i64 (L j : Nat))
  hv : ∀ g, v.ownBlock = some g → ¬ B.fp g ∧ w.heap.size ≤ g
/-- The list, and the newest block, whose words from k on are 0. -/
structure L2 (w wr : World) (B : HB) (m : Nat) (L : Nat → Nat) (v : Value) (H : HS) (a k : Nat) : Prop where
  l1 : L1 w wr B m L v H
  zero : ∀ i, k ≤ i → i < H.room a → H.words (a + i) = 0

theorem L1.made {w wr wa wb : World} {B : HB} {m a r : Nat} {L : Nat → Nat} {v : Value} {H H' : HS} {g cap : Nat} {o : Obj} (h : L1 w wr B m L v H) (hAd : HS.Adds H H' a r) (hA : HeapAt wa B H') (hK : Keeps B.wr wr wa)
    (hb : Own wb 3 (.slice (some ⟨g, 0, none⟩) (m + 1) cap) (m + 1) (setf (fun j => .int .i64 (L j : Nat)) m (.int .i64 (a : Nat))))
    (hk : Keeps (fun b => v.ownBlock = some b) (wa.alloc o) wb) (hg : v.ownBlock = some g ∨ g = (wa.alloc o).heap.size) : L2 w wb B (m + 1) (setf L m a) (.slice (some ⟨g, 0, none⟩) (m + 1) cap) H' a 0 := by
  have h1 := h.fresh.on hA hK
  have hlt := hA.lt
  refine ⟨⟨h.listed.add hAd, ⟨?_, ?_, h1.2.2⟩, hb.congr (fun i hi => ?_), ?_⟩, ?_⟩
  · exact (hA.keep ((Keeps.refl (fun _ => False) _).alloc o) (fun _ _ h => h)).keep hk (fun b hb hvb => (h.hv b hvb).1 hb)
  · exact (h1.2.1.alloc o).trans hk (fun b hb hvb => by have := (h.hv b hvb).2; omega)
  · unfold setf; split <;> rfl
  · intro g' hg'
    simp [Value.ownBlock] at hg'
    subst hg'
    rcases hg with e | e
    · exact h.hv g e
    · have hsz : wa.heap.size ≤ g := by rw [e]; simp
      refine ⟨fun hb => ?_, ?_⟩
      · have := hlt g hb; omega
      · have := h1.2.1.size; omega
  · intro i _ hi
    rw [hAd.words]
    rw [hAd.is] at hi
    exact setr_in _ _ (by omega) (by omega)

theorem L1.drewN {w wr : World} {B : HB} {m : Nat} {L : Nat → Nat} {v : Value} {H : HS} (h : L1 w wr B m L v H) (q : Nat) : L1 w (wr.drewN q) B m L v H := ⟨h.listed, h.fresh.drewN q, h.own.drewN q, h.hv⟩
theorem L2.drewN {w wr : World} {B : HB} {m : Nat} {L : Nat → Nat} {v : Value} {H : HS} {a k : Nat} (h : L2 w wr B m L v H a k) (q : Nat) : L2 w (wr.drewN q) B m L v H a k := ⟨h.l1.drewN q, h.zero⟩
theorem L2.store {w wr wa : World} {B : HB} {m : Nat} {L : Nat → Nat} {v : Value} {H : HS} {a k : Nat} {x : Int} (h : L2 w wr B m L v H a k) (hA : HeapAt wa B { H with words := setf H.words (a + k) x }) (hK : Keeps B.wr wr wa) :
    L2 w wa B m L v { H with words := setf H.words (a + k) x } a (k + 1) :=
  ⟨⟨h.l1.listed.withWords _, h.l1.fresh.on hA hK, h.l1.own.keep hK (fun b hb hw => (h.l1.hv b hb).1 (.inr hw)), h.l1.hv⟩, fun i h1 h2 => by
    show setf H.words (a + k) x (a + i) = 0
    rw [setf_ne _ _ (by omega)]; exact h.zero i (by omega) h2⟩

set_option maxRecDepth 100000 in
set_option maxHeartbeats 4000000 in
theorem walk (a1 : Option Addr) (len cap : Nat) (z : Nat → Int) (v : Int) (w : World) (harg : Arg w a1 len (fun i => .int .i64 (z i))) (hlen : len ≤ maxLen) :
    Calls Try.prog 7 #[.slice a1 len cap, .int .i64 v] w fun e w' => e = .returned (.bool true) ∧ Below w.heap.size w w' := by
  have hanc := Lib.hid (anchor_calls w)
  by_cases hg : 60 < len
  · have hd : decide ((60 : Int) < (len : Int)) = true := decide_eq_true (by omega)
    clear harg
    unfold maxLen at hlen
    go_enter Try.func7, Try.ntmps7
    go_wp2_with fail
    refine hanc.out.mono ?_
    rintro e w0 ⟨rfl, hK0⟩
    have HK0 := Lib.hid hK0
    clear hK0
    go_wp2
    go_ret
    exact ⟨rfl, HK0.out.below (fun _ _ h => h)⟩
  · have hd : decide ((60 : Int) < (len : Int)) = false := decide_eq_false (by omega)
    have hl60 : len ≤ 60 := by omega
    have HARG := Lib.hid harg
    clear harg hlen hg
    obtain ⟨i0, hi, hz0, hz1, hz2⟩ := info_parts Try.info_int
    go_enter Try.func7, Try.ntmps7
    go_wp2_with fail
    refine hanc.out.mono ?_
    rintro e w0 ⟨rfl, hK0⟩
    have HK0 := Lib.hid hK0
    clear hK0 hanc
    go_wp2_with fail
    refine (new_calls w0 4096 (by omega) (by omega)).mono ?_
    rintro e w1 ⟨B, rfl, hf⟩
    go_wp2
    go_loopw [6] (fun r wr => ∃ j : Nat, j ≤ 2 ∧ r = .int .i64 j ∧ ∃ H, Hid (HS.Listed H 64 0 id ∧ Fresh w0 wr B H)) (fun r _ => 2 - (intOf r).toNat)
    case atStart => exact ⟨0, by omega, rfl, _, HS.new_listed (x := 4096) (by omega) (new_wf (by omega) (by omega)), hf.out⟩
    case round =>
      clear hf
      obtain ⟨j, hj, rfl, H, hH⟩ := hrel
      by_cases hj2 : j < 2
      · obtain ⟨wo, rfl⟩ : ∃ wo : World, wo = wr := ⟨_, rfl⟩
        have hdj : decide ((j : Int) < 2) = true := decide_eq_true (by omega)
        go_wp2
        go_loopw [7, 33] (fun l i wr => ∃ k : Nat, k ≤ len ∧ i = .int .i64 k ∧ ∃ m L H, m ≤ k ∧ Hid (L1 w0 wr B m L l H)) (fun _ i _ => len - (intOf i).toNat)
        case atStart => exact ⟨0, Nat.zero_le _, rfl, 0, id, H, by omega, hH.out.1, hH.out.2, Own.nil _ _ _, fun g hg => by simp [Value.ownBlock] at hg⟩
        case round =>
          clear hH H
          obtain ⟨k, hk, rfl, m, L, H, hm, hL⟩ := hrel
          by_cases hkl : k < len
          · have hdk : decide ((k : Int) < (len : Int)) = true := decide_eq_true (by omega)
            obtain ⟨b, o, rfl, hzc⟩ := ((HARG.out.keep HK0.out).keep hL.out.fresh.2.1).get hkl
            generalize z k = zk at *
            cases hal : H.alloc zk with
            | none =>
              have HAL := Lib.hid (alloc_no hL.out.fresh.1 hL.out.listed.wf hal)
              have HL := hL
              clear hal hL
              go_wp2_with fail
              refine HAL.out.mono ?_
              rintro e w2 ⟨rfl, q, rfl⟩
              go_wp2
              go_roundw
              case rel => exact ⟨k + 1, by omega, by go_num, m, L, H, by omega, HL.out.drewN q⟩
              case measure => simp [intOf]; omega
            | some p =>
              obtain ⟨a, H'⟩ := p
              have HAL := Lib.hid (alloc_yes hL.out.fresh.1 hL.out.listed.wf hal)
              have HAD := Lib.hid (hL.out.listed.wf.alloc_adds hal).2.2
              have HL := hL
              clear hal hL
              go_wp2_with fail
              refine HAL.out.mono ?_
              rintro e w2 ⟨rfl, hA, hK, -⟩
              have HA := Lib.hid hA
              have HK := Lib.hid hK
              have HO2 := Lib.hid (HL.out.own.keep hK (fun b hb hw => (HL.out.hv b hb).1 (.inr hw)))
              clear hA hK hzc
              go_wp2_with (at_builtin; refine wpList_app1 _ rfl _ _ 22 rfl 3 i0 (.int .i64 0) 8 Try.underlying_ints hi hz0 hz1 hz2 rfl (by decide) _ m _ rfl (HO2.out.alloc _) _ 1 (.int .i64 (a : Nat)) rfl (by simp) rfl (by omega) ?_; intro g cap' w3 hO3 hK3 hg3)
              have HL2 := Lib.hid (HL.out.made HAD.out HA.out HK.out hO3 hK3 hg3)
              have HIN := Lib.hid (HAD.out.wf.inside (a := a) (by rw [HAD.out.is]; exact HAD.out.pos))
              clear hO3 hK3 hg3 HL HO2 HK HA HAL
              obtain ⟨wo2, rfl⟩ : ∃ wo : World, wo = wr := ⟨_, rfl⟩
              go_wp2
              go_loopw [12] (fun i wr => ∃ t : Nat, i = .int .i64 t ∧ t ≤ H'.room a ∧ ∃ W, Hid (L2 w0 wr B (m + 1) (setf L m a) (.slice (some ⟨g, 0, none⟩) (m + 1) cap') { H' with words := W } a t)) (fun i _ => H'.room a - (intOf i).toNat)
              case atStart => exact ⟨0, rfl, Nat.zero_le _, H'.words, HL2.out⟩
              case round =>
                clear HL2
                obtain ⟨t, rfl, ht, W, hL2⟩ := hrel
                have hin := HIN.out
                have HR := Lib.hid (room_calls hL2.out.l1.fresh.1 hL2.out.l1.listed.wf (a : Nat))
                have hri : (HS.roomI { H' with words := W } ((a : Nat) : Int)) = H'.room a := HS.roomI_nat _ a
                obtain ⟨rm, hrm⟩ : ∃ rm, rm = H'.room a := ⟨_, rfl⟩
                rw [hri, ← hrm] at HR
                rw [← hrm] at ht hin
                by_cases htr : t < rm
                · have hdt : decide ((t : Int) < (rm : Int)) = true := decide_eq_true (by omega)
                  have hz := hL2.out.zero t (Nat.le_refl _) (by show t < H'.room a; omega)
                  have HLD := Lib.hid (fun q => load_yes (hL2.out.drewN q).l1.fresh.1 hL2.out.l1.listed.wf (a : Nat) (t : Nat) (by omega) (by rw [hri, ← hrm]; omega))
                  have HSTO := Lib.hid (fun q => store_yes (hL2.out.drewN q).l1.fresh.1 hL2.out.l1.listed.wf (a : Nat) (t : Nat) v (by omega) (by rw [hri, ← hrm]; omega))
                  have HST2 := Lib.hid (fun q wa hA hK => (hL2.out.drewN q).store (wa := wa) (x := v) hA hK)
                  have HZ : Hid (W (((a : Nat) : Int) + ((t : Nat) : Int)).toNat = 0) := by
                    show _ = _
                    rw [show (((a : Nat) : Int) + ((t : Nat) : Int)).toNat = a + t by omega]; exact hz
                  have HRM := Lib.hid hrm
                  have HL2 := hL2
                  clear hri hrm hz hL2
                  go_wp2_with fail
                  refine HR.out.mono ?_
                  rintro e w4 ⟨rfl, q4, rfl⟩
                  go_wp2_with fail
                  refine (HLD.out _).mono ?_
                  rintro e w5 ⟨h5, q5, rfl⟩
                  unfold RetPair at h5
                  rw [HZ.out] at h5
                  subst h5
                  go_wp2_with fail
                  refine (HSTO.out _).mono ?_
                  rintro e w6 ⟨rfl, hA6, hK6, -⟩
                  have eidx : (((a : Nat) : Int) + ((t : Nat) : Int)).toNat = a + t := by omega
                  rw [eidx] at hA6
                  have HL3 := Lib.hid (HST2.out _ _ hA6 hK6)
                  have HLD2 := Lib.hid (load_yes HL3.out.l1.fresh.1 HL3.out.l1.listed.wf (a : Nat) (t : Nat) (by omega) (by rw [HS.roomI_nat]; show (t : Int) < (H'.room a : Nat); rw [← HRM.out]; omega))
                  have HV : Hid (setf W (a + t) v (((a : Nat) : Int) + ((t : Nat) : Int)).toNat = v) := by
                    show _ = _
                    rw [eidx]; exact setf_same _ _ _
                  have hvv : (v == v) = true := beq_self_eq_true v
                  clear hA6 hK6 eidx HST2 HSTO HLD
                  go_wp2_with fail
                  refine HLD2.out.mono ?_
                  rintro e w7 ⟨h7, q7, rfl⟩
                  unfold RetPair at h7
                  rw [HV.out] at h7
                  subst h7
                  go_wp2
                  go_roundw
                  case rel => exact ⟨t + 1, by go_num, by rw [← HRM.out]; omega, _, HL3.out.drewN q7⟩
                  case measure => simp [intOf]; have := HRM.out; omega
                · have hdt : decide ((t : Int) < (rm : Int)) = false := decide_eq_false (by omega)
                  have HL2 := hL2
                  clear hri hL2 hrm
                  go_wp2_with fail
                  refine HR.out.mono ?_
                  rintro e w4 ⟨rfl, q4, rfl⟩
                  go_wp2
                  go_roundw
                  case rel => exact ⟨k + 1, by omega, by go_num, m + 1, setf L m a, _, by omega, HL2.out.l1.drewN q4⟩
                  case measure => simp [intOf]; omega
          · obtain rfl : k = len := by omega
            obtain ⟨al, capl, rfl⟩ := hL.out.own.slice
            have HR0 := Lib.hid hL.out.listed.rest
            have HINJ := Lib.hid hL.out.listed.inj
            have H2 : Hid (Fills.F2 w0 wr B 64 m L L 0 (.slice al m capl) H) := ⟨HR0.out, hL.out.fresh, hL.out.own, hL.out.hv⟩
            clear hL HR0
            obtain ⟨wo2, rfl⟩ : ∃ wo : World, wo = wr := ⟨_, rfl⟩
            go_wp2
            go_loopw [90] (fun i wr => ∃ t : Nat, t ≤ m ∧ i = .int .i64 t ∧ ∃ H, Hid (Fills.F2 w0 wr B 64 m L L t (.slice al m capl) H)) (fun i _ => m - (intOf i).toNat)
            case atStart => exact ⟨0, Nat.zero_le _, rfl, H, H2.out⟩
            case round =>
              clear H2
              obtain ⟨t, ht, rfl, H, hF2⟩ := hrel
              by_cases htm : t < m
              · obtain ⟨b, rfl, hcell⟩ := hF2.out.own.at_ (by omega)
                have hst := hF2.out.rest.step htm (fun i i' h1 h2 h3 => HINJ.out i i' h1 h2 h3)
                have hck := hcell t htm
                have HFR := Lib.hid (free_calls hF2.out.fresh.1 hF2.out.rest.wf ((L t : Nat) : Int) (by rw [HS.roomI_nat]; exact hst.1))
                have HR2 := Lib.hid hst.2
                have HF2 := hF2
                clear hst hcell hF2
                go_wp2_with fail
                refine HFR.out.mono ?_
                rintro e w7 ⟨rfl, hA, hK, -⟩
                rw [Int.toNat_natCast] at hA
                have HN := Lib.hid (HF2.out.step HR2.out hA hK)
                clear hA hK
                go_wp2
                go_roundw
                case rel => exact ⟨t + 1, by omega, by go_num, _, HN.out⟩
                case measure => simp [intOf]; omega
              · obtain rfl : t = m := by omega
                have HN : Hid (HS.Listed H 64 0 id ∧ Fresh w0 wr B H) := ⟨hF2.out.rest.listed, hF2.out.fresh⟩
                clear hF2
                go_wp2
                go_roundw
                case rel => exact ⟨j + 1, by omega, by go_num, H, HN.out⟩
                case measure => simp [intOf]; omega
      · have hs := hH.out.1.rest_done
        have hsp := spans_calls hH.out.2.1 hH.out.1.wf
        rw [hs.1] at hsp
        have HSP := Lib.hid hsp
        have hbl := blocks_calls hH.out.2.1 hH.out.1.wf
        rw [hs.2] at hbl
        have HBL := Lib.hid hbl
        have hdj : decide ((j : Int) < 2) = false := decide_eq_false (by omega)
        clear hs hsp hbl
        go_wp2_with fail
        refine HBL.out.mono ?_
        rintro e w7 ⟨ab, cb, rfl, hm⟩
        have HSP2 := Lib.hid (spans_calls (hH.out.2.1.keep hm.out.keeps (fun _ _ h => h)) hH.out.1.wf)
        have hs := hH.out.1.rest_done
        rw [hs.1] at HSP2
        clear hs
        go_wp2_with fail
        refine HSP2.out.mono ?_
        rintro e w8 ⟨rfl, rfl⟩
        go_wp2
        go_ret
        exact ⟨rfl, ((HK0.out.trans hH.out.2.2.1 (fun _ _ h => h)).trans hm.out.keeps (fun _ _ h => h)).below (fun _ _ h => h)⟩
end WordsLaw
end Go.Proofs.Ytchoioajalpfoaa
