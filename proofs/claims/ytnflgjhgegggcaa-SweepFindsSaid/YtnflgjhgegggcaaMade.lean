/-
  The walk of derricklaw07.made.
-/
import Derived.Test.YtnflgjhgegggcaaMadeQ
namespace Go.Proofs.Ytnflgjhgegggcaa
open Go.RowKit

theorem RefA.ralloc_eq {w0 w : World} {R : Nat → Prop} {rb : Nat} {H H' : HS} (h : RefA w0 w R rb H) (hW : H.Wf) {x : Int} {a : Nat} (e : H.alloc x = some (a, H')) :
    Calls Try.prog 26 #[.pointer (some ⟨rb, 0, none⟩), .int .i64 x] w fun e w' => e = .returned (.tuple #[.int .i64 a, .bool true]) ∧ Hid (RefA w0 w' R rb H' ∧ Keeps (fun k => k = rb) w w') := by
  refine (h.ralloc hW x).mono fun e' w' hp => ?_
  rw [e] at hp
  exact ⟨hp.1, hp.2.1, hp.2.2⟩

set_option maxRecDepth 100000 in
set_option maxHeartbeats 8000000 in
theorem made_calls (w : World) (a : Option Addr) (len cap : Nat) (R : Nat → RawE) (hA : RawArg w a len R) (hF : Few R len) :
    Calls Try.prog 12 #[.slice a len cap] w fun e w' => ∃ B rb v E H, e = .returned (.tuple #[.pointer (some ⟨HB.h B, 0, none⟩), .pointer (some ⟨rb, 0, none⟩), v]) ∧ Hid (M2 w w' B rb R len len v E H) := by
  have HA := Lib.hid hA
  have HFW := Lib.hid hF
  have hlen := hF.1
  have HNW : Hid (Calls Try.prog 21 #[.int .i64 8192] w fun e w' => ∃ B : HB, e = .returned (.pointer (some ⟨B.h, 0, none⟩)) ∧ Hid (Fresh w w' B (HS.new 8192))) := new_calls w 8192 (by omega) (by omega)
  have HRN : Hid (∀ (w2 : World) (Rs : Nat → Prop), w.heap.size ≤ w2.heap.size → (∀ k, Rs k → k < w2.heap.size) → Calls Try.prog 25 #[.int .i64 8192] w2 fun e w' => ∃ rb, e = .returned (.tuple #[.pointer (some ⟨rb, 0, none⟩), .bool true]) ∧ Hid (RefA w w' Rs rb (HS.new 8192) ∧ Keeps (fun _ => False) w2 w')) := fun w2 Rs h1 h2 => rnew_yes w w2 h1 Rs h2 8192 (by omega) (by omega)
  clear hA hF
  go_enter Try.func12, Try.ntmps12
  go_wp2_with fail
  refine HNW.out.mono ?_
  rintro e w1 ⟨B, rfl, hf⟩
  have HR2 := Lib.hid (HRN.out w1 B.fp hf.out.2.1.size hf.out.1.lt)
  go_wp2_with fail
  refine HR2.out.mono ?_
  rintro e w2 ⟨rb, rfl, hr⟩
  have HM : Hid (M1 w w2 B rb R 0 (.slice none 0 0)) := ⟨hf.out.2.1.trans hr.out.2 (fun _ _ h => h), hf.out.1.keep hr.out.2 (fun _ _ h => h), hr.out.1, World.ownsRow_nil _ _ _ _, hf.out.2.2⟩
  clear HNW HRN HR2 hf hr
  go_wp2
  go_loopw [8, 30] (fun v i wr => ∃ k : Nat, k ≤ len ∧ i = .int .i64 k ∧ Hid (M1 w wr B rb R k v)) (fun _ i _ => len - (intOf i).toNat)
  case atStart => exact ⟨0, Nat.zero_le _, rfl, HM⟩
  case round =>
    clear HM
    obtain ⟨k, hk, rfl, hM⟩ := hrel
    by_cases hlt : k < len
    · have dk : decide (k < len) = true := decide_eq_true hlt
      obtain ⟨b, o, rfl, c0, c1, c2, c3, -, -⟩ := (HA.out.keep hM.out.keeps).get hlt
      have hall := mkH_all HFW.out (k + 1) hlt
      obtain ⟨r, hal, hadd, -⟩ := hall.2.2.2 k (by omega)
      have hwf := (mkH_all HFW.out k (by omega)).1
      have hwl := HFW.out.2 k hlt
      have HRAW : Hid ((rawLB R k) = ⟨mkA R k, (R k).kd, (R k).sz, (R k).ms, (R k).wa, (R k).wl, (R k).wc⟩) := rfl
      have HA1 := Lib.hid (fun o => alloc_yes (hM.out.heap.keep ((Keeps.refl (fun _ => False) wr).alloc o) (fun _ _ h => h)) hwf hal)
      have HA2 : Hid (∀ w2, Hid (RefA w w2 B.fp rb (mkH R k)) → _) := fun w2 h => h.out.ralloc_eq hwf hal
      have HMS : Hid (∀ {wa wb wc : World} {v' : Value} {o : Obj}, HeapAt wa B (mkH R (k + 1)) → Keeps B.wr wr wa → RefA w wb B.fp rb (mkH R (k + 1)) → Keeps (fun x => x = rb) wa wb → wc.ownsRow w.heap.size 37 5 v' (k + 1) (lball (LE (rawLB R) k) ++ (rawLB R k).cells) → Keeps (fun b => u8.ownBlock = some b) (wb.alloc o) wc → M1 w wc B rb R (k + 1) v') := fun h1 h2 h3 h4 h5 h6 => hM.out.step h1 h2 h3 h4 h5 h6
      clear hall hadd hwf hal
      rw [HRAW.out] at HMS
      generalize (R k).kd = kd at *
      generalize (R k).sz = sz at *
      generalize (R k).ms = ms at *
      generalize (R k).wa = wa at *
      generalize (R k).wl = wl at *
      generalize (R k).wc = wc at *
      generalize mkA R k = ak at *
      have hBw : ∀ x, B.fp x → x < wr.heap.size := hM.out.heap.lt
      have hnB : ¬ B.wr wr.heap.size := fun e => by have := hBw _ (.inr e); omega
      have hnr : wr.heap.size ≠ rb := by have := hM.out.ref.rb_new.2.2; omega
      have HRA := Lib.hid (fun o => hM.out.ref.alloc o)
      have HROW := Lib.hid hM.out.row
      have hvB := Lib.hid (lrow_fp hM.out.heap hM.out.row)
      have hvR := Lib.hid (lrow_rb hM.out.ref hM.out.row)
      have hws := hM.out.keeps.size
      clear hM
      go_wp2_with fail
      refine (HA1.out _).mono ?_
      rintro e w3 ⟨rfl, hA3, hK3, -⟩
      have d0 : w3.cell? ⟨wr.heap.size, 0, none⟩ = some (.int .i64 kd) := hK3.cell (World.cell?_alloc_new wr _ _ 0) hnB
      have d1 : w3.cell? ⟨wr.heap.size, 1, none⟩ = some (.int .i64 sz) := hK3.cell (World.cell?_alloc_new wr _ _ 1) hnB
      have d2 : w3.cell? ⟨wr.heap.size, 2, none⟩ = some (.int .i64 ms) := hK3.cell (World.cell?_alloc_new wr _ _ 2) hnB
      have d3 : w3.cell? ⟨wr.heap.size, 3, none⟩ = some (.slice wa wl wc) := hK3.cell (World.cell?_alloc_new wr _ _ 3) hnB
      have hK3' : Keeps B.wr wr w3 := ((Keeps.refl B.wr wr).alloc _).trans hK3 (fun _ _ h => h)
      have HR3 := Lib.hid ((HRA.out _).keep hK3 (fun k hw _ => .inr hw))
      have hrow3 := ownsRow_keeps HROW.out hK3' (fun x e hb => hvB.out x e (.inr hb))
      have HA3 := Lib.hid hA3
      have HK3 := Lib.hid hK3'
      have HROW3 := Lib.hid hrow3
      have hw3 := hK3'.size
      clear hA3 hK3 hK3' hrow3 HA1 HRA c0 c1 c2 c3
      generalize wr.heap.size = p at *
      go_wp2_with fail
      refine (HA2.out w3 HR3).mono ?_
      rintro e w4 ⟨rfl, h4⟩
      replace d0 := h4.out.2.cell d0 hnr
      replace d1 := h4.out.2.cell d1 hnr
      replace d2 := h4.out.2.cell d2 hnr
      replace d3 := h4.out.2.cell d3 hnr
      have HROW4 := Lib.hid (ownsRow_keeps HROW3.out h4.out.2 (fun x e hb => hvR.out x e hb))
      have hw4 := h4.out.2.size
      go_wp2_with (at_builtin; (refine wpList_appLB rfl _ _ rfl w.heap.size u8 k _ rfl (HROW4.out.alloc _) _ 1 ⟨ak, kd, sz, ms, wa, wl, wc⟩ (0, 0) rfl (heap_alloc_new _ _) (by omega) (by simp; omega) ?_; intro gA cA w5 hO hK))
      have HN := Lib.hid (HMS.out HA3.out HK3.out h4.out.1 h4.out.2 hO hK)
      clear hO hK
      go_wp2
      go_roundw
      case rel => exact ⟨k + 1, by omega, by go_num, HN⟩
      case measure => simp [intOf]; omega
    · obtain rfl : len = k := by omega
      have dk : decide (len < len) = false := by simp
      obtain ⟨wo, rfl⟩ : ∃ wo : World, wo = wr := ⟨_, rfl⟩
      have HM2 := Lib.hid (hM.out.two HFW.out)
      obtain ⟨al, cl, rfl, -⟩ := ownsRow_slice hM.out.row
      clear hM
      go_wp2
      go_loopw [77] (fun i wr => ∃ (k : Nat) (E : Nat → LB) (H : HS), k ≤ len ∧ i = .int .i64 k ∧ Hid (M2 w wr B rb R len k (.slice al len cl) E H)) (fun i _ => len - (intOf i).toNat)
      case atStart => exact ⟨0, _, _, Nat.zero_le _, rfl, HM2⟩
      case round =>
        clear HM2
        obtain ⟨k, E, H, hk, rfl, hM⟩ := hrel
        by_cases hlt : k < len
        · have dk : decide (k < len) = true := decide_eq_true hlt
          have hrow : wr.ownsRow w.heap.size 37 5 (.slice al len cl) (LE E len).length (lball (LE E len)) := by rw [LE_length]; exact hM.out.env.row
          obtain ⟨b, rfl, -, hbl, hbn, c0, c1, c2, c3, c4, f0⟩ := lrow_at hrow (i := k) (by rw [LE_length]; exact hlt)
          rw [LE_at E hlt, hM.out.todo k (Nat.le_refl _) hlt] at c0 c1 c2 c3 c4
          obtain ⟨r1, r2, r3, r4, r5⟩ := mkr_ge HFW.out hlt
          replace c0 : wr.cell? ⟨b, k * 5, none⟩ = some (.int .i64 (mkA R k : Nat)) := c0
          replace c1 : wr.cell? ⟨b, k * 5 + 1, none⟩ = some (.int .i64 (R k).kd) := c1
          replace c2 : wr.cell? ⟨b, k * 5 + 2, none⟩ = some (.int .i64 (R k).sz) := c2
          replace c3 : wr.cell? ⟨b, k * 5 + 3, none⟩ = some (.int .i64 (R k).ms) := c3
          replace c4 : wr.cell? ⟨b, k * 5 + 4, none⟩ = some (.slice (R k).wa (R k).wl (R k).wc) := c4
          have HHD := Lib.hid (fun w => header_calls w (R k).kd (R k).sz (R k).ms)
          have HBF : Hid (¬ B.fp b) := lrow_fp hM.out.env.heap hM.out.env.row b rfl
          have hBw := hM.out.env.heap.lt
          have hpb : wr.heap.size ≠ b := by omega
          have HPF : Hid (¬ B.fp wr.heap.size) := fun e => by have := hBw _ e; omega
          have HEX : Hid (E k = rawLB R k) := hM.out.todo k (Nat.le_refl _) hlt
          have hkz : Hid (hdr (R k).kd (R k).sz (R k).ms = mkh R k) := rfl
          rw [hkz.out] at HHD
          obtain ⟨wA, hwA⟩ : ∃ wA, wA = wr.alloc (.cells #[.int .i64 (mkA R k : Nat), .int .i64 (R k).kd, .int .i64 (R k).sz, .int .i64 (R k).ms, .slice (R k).wa (R k).wl (R k).wc] 37) := ⟨_, rfl⟩
          have HKA : Hid (Keeps (fun _ => False) wr wA) := by rw [hwA]; exact (Keeps.refl _ wr).alloc _
          have HEA := Lib.hid (hM.out.env.keep0 HKA.out)
          have n1 := HKA.out.cell0 c1
          have n2 := HKA.out.cell0 c2
          have g1 : wA.frozen? ⟨b, k * 5 + 1, none⟩ = false := by rw [← f0 (k * 5 + 1)]; exact World.frozen?_of_block (HKA.out.block b hbl (fun h => h))
          have g2 : wA.frozen? ⟨b, k * 5 + 2, none⟩ = false := by rw [← f0 (k * 5 + 2)]; exact World.frozen?_of_block (HKA.out.block b hbl (fun h => h))
          have a0 : wA.cell? ⟨wr.heap.size, 0, none⟩ = some (.int .i64 (mkA R k : Nat)) := by rw [hwA]; exact World.cell?_alloc_new wr _ _ 0
          have a4 : wA.cell? ⟨wr.heap.size, 4, none⟩ = some (.slice (R k).wa (R k).wl (R k).wc) := by rw [hwA]; exact World.cell?_alloc_new wr _ _ 4
          have hsA : wr.heap.size < wA.heap.size := by rw [hwA]; simp
          go_wp2_with fail
          refine (HHD.out _).mono ?_
          rintro e w5 ⟨rfl, rfl⟩
          rw [← hwA]
          clear hwA c0 c1 c2 c3 c4 f0 hrow HHD hBw
          generalize wr.heap.size = p at *
          have REST : ∀ wS E', wS.cell? ⟨p, 0, none⟩ = some (.int .i64 (mkA R k : Nat)) → wS.cell? ⟨p, 4, none⟩ = some (.slice (R k).wa (R k).wl (R k).wc) → Keeps (fun x => x = b) wr wS → Env w wS B rb B.fp R len (.slice (some ⟨b, 0, none⟩) len cl) E' H → (∀ j, j ≠ k → E' j = E j) →
              E' k = ⟨mkA R k, mkK R k, mkS R k, (R k).ms, (R k).wa, (R k).wl, (R k).wc⟩ → Calls Try.prog 23 #[.pointer (some ⟨B.h, 0, none⟩), .int .i64 (mkA R k : Nat), .int .i64 0, .int .i64 (mkh R k)] wS fun e w' => e = .returned (.bool true) ∧
              w'.cell? ⟨p, 0, none⟩ = some (.int .i64 (mkA R k : Nat)) ∧ w'.cell? ⟨p, 4, none⟩ = some (.slice (R k).wa (R k).wl (R k).wc) ∧ Hid (HeapAt w' B { H with words := setf H.words (mkA R k) (mkh R k) } ∧ Keeps B.wr wS w') := by
            intro wS E' q0 q4 hk1 he ho hi
            have hst := store_yes he.heap (he.wf HFW.out) ((mkA R k : Nat) : Int) 0 (mkh R k) (by omega) (by rw [HS.roomI_nat, he.room]; omega)
            rw [show (((mkA R k : Nat) : Int) + 0).toNat = mkA R k by omega] at hst
            refine hst.mono ?_
            rintro e w' ⟨h1, h2, h3, -⟩
            exact ⟨h1, h3.cell q0 (fun h => HPF.out (.inr h)), h3.cell q4 (fun h => HPF.out (.inr h)), h2, h3⟩
          have HREST := Lib.hid REST
          clear REST
          by_cases hz : mkh R k = 0
          case' pos =>
            have dz : (mkh R k == 0) = true := beq_iff_eq.2 hz
            have hEk : mkK R k = 0 ∧ mkS R k = 0 := by unfold mkK mkS; rw [if_pos hz, if_pos hz]; exact ⟨rfl, rfl⟩
            have q1 := HEA.out.set hlt 1 (by omega) (.int .i64 0) ⟨mkA R k, 0, (R k).sz, (R k).ms, (R k).wa, (R k).wl, (R k).wc⟩ (by rw [HEX.out]; rfl)
            have q2 := q1.1.set hlt 2 (by omega) (.int .i64 0) ⟨mkA R k, 0, 0, (R k).ms, (R k).wa, (R k).wl, (R k).wc⟩ (by rw [setf_same]; rfl)
            have d0 := q2.2.cell (q1.2.cell a0 hpb) hpb
            have d4 := q2.2.cell (q1.2.cell a4 hpb) hpb
            have hks : Keeps (fun x => x = b) wr ((wA.setCell ⟨b, k * 5 + 1, none⟩ (.int .i64 0)).setCell ⟨b, k * 5 + 2, none⟩ (.int .i64 0)) := ((HKA.out.mono (fun _ _ h => h.elim)).trans q1.2 (fun _ _ h => h)).trans q2.2 (fun _ _ h => h)
            have HKS := Lib.hid hks
            have HE := Lib.hid q2.1
            have HEo : Hid (∀ j, j ≠ k → setf (setf E k ⟨mkA R k, 0, (R k).sz, (R k).ms, (R k).wa, (R k).wl, (R k).wc⟩) k ⟨mkA R k, 0, 0, (R k).ms, (R k).wa, (R k).wl, (R k).wc⟩ j = E j) := fun j hj => by rw [setf_ne _ _ hj, setf_ne _ _ hj]
            have HEi : Hid (setf (setf E k ⟨mkA R k, 0, (R k).sz, (R k).ms, (R k).wa, (R k).wl, (R k).wc⟩) k ⟨mkA R k, 0, 0, (R k).ms, (R k).wa, (R k).wl, (R k).wc⟩ k = ⟨mkA R k, mkK R k, mkS R k, (R k).ms, (R k).wa, (R k).wl, (R k).wc⟩) := by
              show _ = _
              rw [setf_same, hEk.1, hEk.2]
            obtain ⟨E', hE'⟩ : ∃ E', E' = setf (setf E k ⟨mkA R k, 0, (R k).sz, (R k).ms, (R k).wa, (R k).wl, (R k).wc⟩) k ⟨mkA R k, 0, 0, (R k).ms, (R k).wa, (R k).wl, (R k).wc⟩ := ⟨_, rfl⟩
            rw [← hE'] at HE HEo HEi
            clear q1 q2 hEk hks hE' hz
            go_wp2_with fail
            generalize (wA.setCell ⟨b, k * 5 + 1, none⟩ (.int .i64 0)).setCell ⟨b, k * 5 + 2, none⟩ (.int .i64 0) = wS at *
          case' neg =>
            have dz : (mkh R k == 0) = false := beq_eq_false_iff_ne.2 hz
            have HE : Hid (Env w wA B rb B.fp R len (.slice (some ⟨b, 0, none⟩) len cl) E H) := HEA
            have HKS : Hid (Keeps (fun x => x = b) wr wA) := HKA.out.mono (fun _ _ h => h.elim)
            have HEi : Hid (E k = ⟨mkA R k, mkK R k, mkS R k, (R k).ms, (R k).wa, (R k).wl, (R k).wc⟩) := by
              show _ = _
              rw [HEX.out]
              unfold rawLB mkK mkS
              rw [if_neg hz, if_neg hz]
            have d0 := a0
            have d4 := a4
            clear hz
            obtain ⟨E', hE'⟩ : ∃ E', E' = E := ⟨_, rfl⟩
            obtain ⟨wS, hwS⟩ : ∃ wS, wS = wA := ⟨_, rfl⟩
            go_wp2_with fail
            rw [← hE'] at HE
            rw [← hwS] at HE HKS d0 d4
            rw [← hwS]
            have HEo : Hid (∀ j, j ≠ k → E' j = E j) := fun _ _ => by rw [hE']
            rw [← hE'] at HEi
            clear hE' hwS
          all_goals
            have HSTO := Lib.hid (HREST.out wS E' d0 d4 HKS.out HE.out HEo.out HEi.out)
            refine HSTO.out.mono ?_
            rintro e w6 ⟨rfl, t0, t4, h6⟩
            obtain ⟨n, hn⟩ : ∃ n, n = mkr R len k - 1 := ⟨_, rfl⟩
            have hn1 : ((mkr R len k : Nat) : Int) - 1 = (n : Int) := by omega
            have hnl : (R k).wl ≤ n := by omega
            have hnb : n ≤ 1048576 := by omega
            have hpn : (0 : Int) ≤ (n : Int) := by omega
            obtain ⟨Z, hZ, mkz⟩ := make_ints n hnb
            have HWF6 : Hid (HS.Wf { H with words := setf H.words (mkA R k) (mkh R k) }) := (HE.out.wf HFW.out).withWords _
            have hrm := room_calls h6.out.1 HWF6.out ((mkA R k : Nat) : Int)
            have hrmk : ({ H with words := setf H.words (mkA R k) (mkh R k) } : HS).roomI ((mkA R k : Nat) : Int) = mkr R len k := by rw [HS.roomI_nat]; exact HE.out.room k
            rw [hrmk] at hrm
            have HRM := Lib.hid hrm
            have HZ := Lib.hid hZ
            clear hrm hrmk hZ HSTO HREST HWF6
            go_wp2_with fail
            refine HRM.out.mono ?_
            rintro e w7 ⟨rfl, q7, hw7⟩
            have HK7 : Hid (Keeps (fun _ => False) w6 w7) := by rw [hw7]; exact (Keeps.refl _ w6).drewN q7
            clear hw7
            have t0' := HK7.out.cell0 t0
            have t4' := HK7.out.cell0 t4
            have HM3 := Lib.hid (hM.out.begin HFW.out hlt HKS.out (fun x e => by rw [e]; rfl) HE.out HEo.out HEi.out (h6.out.1.keep HK7.out (fun _ _ h => h)) (h6.out.2.trans HK7.out (fun _ _ h => h.elim)) (Z := Z) (by rw [← hn]; exact HZ.out))
            have HT : Hid ((w7.alloc (.cells Z 3)).cell? ⟨p, 0, none⟩ = some (.int .i64 (mkA R k : Nat)) ∧ (w7.alloc (.cells Z 3)).cell? ⟨p, 4, none⟩ = some (.slice (R k).wa (R k).wl (R k).wc)) := ⟨((Keeps.refl (fun _ => False) w7).alloc _).cell0 t0', ((Keeps.refl (fun _ => False) w7).alloc _).cell0 t4'⟩
            clear HRM t0 t4 d0 d4 a0 a4 n1 n2 g1 g2
            have HNN := Lib.hid hn
            have HGE : Hid (wr.heap.size ≤ wr.heap.size ∧ p < w7.heap.size) := by
              refine ⟨Nat.le_refl _, ?_⟩
              exact World.block_lt_of_cell? w7 _ t0'
            have hwlb := HFW.out.2 k hlt
            obtain ⟨va, HVA⟩ : ∃ va, Hid (va = (R k).wa) := ⟨_, rfl⟩
            rw [← HVA.out] at HT t4'
            have t4a := HT.out.2
            clear hn hM HEX HKA HEA HEi HKS HE HEo h6 HK7 t0'
            go_wp2
            generalize w7.alloc (.cells Z 3) = w8 at *
            obtain ⟨g, hg⟩ : ∃ g, g = w7.heap.size := ⟨_, rfl⟩
            rw [← hg] at HM3
            rw [← hg]
            have hpg : p ≠ g := by have := HGE.out.2; omega
            have HPG := Lib.hid hpg
            clear hg
            have HR9 := HA.out
            go_loopw [113] (fun i wr => ∃ (t : Nat) (H' : HS), t ≤ (R k).wl ∧ i = .int .i64 t ∧ Hid (M3 w wr B rb R len k t g (.slice (some ⟨b, 0, none⟩) len cl) E' H') ∧ Hid (wr.cell? ⟨p, 0, none⟩ = some (.int .i64 (mkA R k : Nat)))) (fun i _ => (R k).wl - (intOf i).toNat)
            case atStart => exact ⟨0, _, Nat.zero_le _, rfl, HM3, HT.out.1⟩
            case round =>
              clear HM3 HT
              obtain ⟨t, H3, ht, rfl, hM3, hp0⟩ := hrel
              by_cases htl : t < (R k).wl
              · have dt : decide (t < (R k).wl) = true := decide_eq_true htl
                have hraw := (HA.out.keep hM3.out.env.keeps).get hlt
                obtain ⟨-, -, -, -, -, -, -, harg, hlow⟩ := hraw
                rw [← HVA.out] at harg
                obtain ⟨b9, o9, rfl, hx9⟩ := harg.get htl
                have hlo := hlow t htl
                have HW0 : Hid (mkw R len k t = mkv R len ((R k).ws t)) := by show _ = _; unfold mkw; rw [if_pos htl]
                have hrowE : wr.ownsRow w.heap.size 37 5 (.slice (some ⟨b, 0, none⟩) len cl) (LE E' len).length (lball (LE E' len)) := by rw [LE_length]; exact hM3.out.env.row
                have HQC : Hid (∀ q, q < len → wr.cell? ⟨b, q * 5, none⟩ = some (.int .i64 (mkA R q : Nat))) := by
                  intro q hq
                  obtain ⟨b', e', -, -, -, c0, -⟩ := lrow_at hrowE (i := q) (by rw [LE_length]; exact hq)
                  rw [LE_at E' hq, hM3.out.ea q hq] at c0
                  cases e'
                  exact c0
                have hgc := hM3.out.row.cell (i := t) (by omega)
                have hgf := hM3.out.row.free t
                have hp0a := hp0.out
                have HSTR : Hid (∀ y, mkw R len k t = y → Calls Try.prog 23 #[.pointer (some ⟨B.h, 0, none⟩), .int .i64 (mkA R k : Nat), .int .i64 ((t : Int) + 1), .int .i64 y] (wr.setCell ⟨g, t, none⟩ (.int .i64 y)) fun e w' => e = .returned (.bool true) ∧ Hid (M3 w w' B rb R len k (t + 1) g (.slice (some ⟨b, 0, none⟩) len cl) E' { H3 with words := setf H3.words (mkA R k + (t + 1)) y }) ∧ Hid (w'.cell? ⟨p, 0, none⟩ = some (.int .i64 (mkA R k : Nat)))) := by
                  rintro y rfl
                  have he := hM3.out.env.put hM3.out.row (.inr rfl) hM3.out.nf hM3.out.gn t (.int .i64 (mkw R len k t))
                  have hst := store_yes he.heap (he.wf HFW.out) ((mkA R k : Nat) : Int) ((t : Int) + 1) (mkw R len k t) (by omega) (by rw [HS.roomI_nat, he.room]; omega)
                  rw [show (((mkA R k : Nat) : Int) + ((t : Int) + 1)).toNat = mkA R k + (t + 1) by omega] at hst
                  refine hst.mono ?_
                  rintro e w' ⟨h1, h2, h3, -⟩
                  have hKg : Keeps (fun b => b = g) wr (wr.setCell ⟨g, t, none⟩ (.int .i64 (mkw R len k t))) := (Keeps.refl (fun b => b = g) wr).setCell (p := ⟨g, t, none⟩) (fun _ => rfl) _
                  exact ⟨h1, hM3.out.step HFW.out hlt htl h2 h3, h3.cell (hKg.cell hp0a HPG.out) (fun h => HPF.out (.inr h))⟩
                clear hlow harg hrowE
                by_cases hx0 : (R k).ws t < 0
                · obtain ⟨q, hq⟩ : ∃ q, q = (-((R k).ws t + 1)).toNat % len := ⟨_, rfl⟩
                  have hq1 : q < len := by rw [hq]; exact Nat.mod_lt _ (by omega)
                  have HST := Lib.hid (HSTR.out (mkA R q : Nat) (by rw [HW0.out]; unfold mkv; rw [if_pos hx0, ← hq]))
                  have e1 : (-((R k).ws t + 1)) % (len : Int) = (q : Int) := by
                    rw [hq]
                    have : (-((R k).ws t + 1)) = (((-((R k).ws t + 1)).toNat : Nat) : Int) := by omega
                    rw [Int.natCast_emod, ← this]
                  have e2 : (-((R k).ws t + 1)).tmod (len : Int) = (q : Int) := by rw [Int.tmod_eq_emod_of_nonneg (by omega)]; exact e1
                  have dz0 : ((len : Int) == 0) = false := beq_eq_false_iff_ne.2 (by omega)
                  have hcq := HQC.out q hq1
                  have dx : decide ((R k).ws t < 0) = true := decide_eq_true hx0
                  have HQ := Lib.hid hq
                  clear hq HSTR HQC HW0
                  generalize (R k).ws t = x at *
                  generalize mkA R q = aq at *
                  go_wp2_with fail
                  refine HST.out.mono ?_
                  rintro e w9 ⟨rfl, h9, hp9⟩
                  go_wp2
                  go_roundw
                  case rel => exact ⟨t + 1, _, by omega, by go_num, h9, hp9⟩
                  case measure => simp [intOf]; omega
                · have HST := Lib.hid (HSTR.out ((R k).ws t) (by rw [HW0.out]; unfold mkv; rw [if_neg hx0]))
                  have dx : decide ((R k).ws t < 0) = false := decide_eq_false hx0
                  clear HSTR HQC HW0
                  generalize (R k).ws t = x at *
                  go_wp2_with fail
                  refine HST.out.mono ?_
                  rintro e w9 ⟨rfl, h9, hp9⟩
                  go_wp2
                  go_roundw
                  case rel => exact ⟨t + 1, _, by omega, by go_num, h9, hp9⟩
                  case measure => simp [intOf]; omega
              · have htw : t = (R k).wl := by omega
                have dt : decide (t < (R k).wl) = false := decide_eq_false htl
                have hrowE : wr.ownsRow w.heap.size 37 5 (.slice (some ⟨b, 0, none⟩) len cl) (LE E' len).length (lball (LE E' len)) := by rw [LE_length]; exact hM3.out.env.row
                obtain ⟨b', e', -, -, -, -, -, -, -, z4, zf⟩ := lrow_at hrowE (i := k) (by rw [LE_length]; exact hlt)
                cases e'
                have zf4 := zf (k * 5 + 4)
                have HN : Hid (M2 w (wr.setCell ⟨b, k * 5 + 4, none⟩ (.slice (some ⟨g, 0, none⟩) n n)) B rb R len (k + 1) (.slice (some ⟨b, 0, none⟩) len cl) (setf E' k ⟨mkA R k, mkK R k, mkS R k, (R k).ms, some ⟨g, 0, none⟩, mkr R len k - 1, mkr R len k - 1⟩) H3) := by
                  have := hM3.out
                  rw [htw] at this
                  have := this.fin HFW.out hlt
                  rw [← HNN.out] at this
                  show M2 _ _ _ _ _ _ _ _ _ _
                  rw [← HNN.out]
                  exact this
                clear hrowE zf htw hM3
                go_wp2
                go_roundw
                case rel => exact ⟨k + 1, _, _, by omega, by go_num, HN⟩
                case measure => simp [intOf]; omega
        · obtain rfl : len = k := by omega
          have dk : decide (len < len) = false := by simp
          go_wp2
          go_ret3
          exact ⟨B, rb, _, _, _, rfl, hM⟩
end Go.Proofs.Ytnflgjhgegggcaa
