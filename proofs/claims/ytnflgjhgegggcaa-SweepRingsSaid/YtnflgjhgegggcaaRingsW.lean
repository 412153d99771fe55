/-
  SweepRings: the walk and the law.
-/
import Derived.Test.YtnflgjhgegggcaaRings
import Derived.Deep.RegionHeld3
import Derived.Deep.RegionWith
namespace Go.Proofs.Ytnflgjhgegggcaa
open Go.RowKit
namespace Rings

set_option maxRecDepth 100000 in
set_option maxHeartbeats 8000000 in
theorem rings_calls (w : World) (n f : Nat) (kd mk : Int) (pl : Nat) (hq : Kd kd mk pl) (h1 : 1 ≤ n) (h2 : n ≤ 60) (hf : f < n) :
    Calls Try.prog 5 #[.int .i64 n, .int .i64 f, .int .i64 kd] w fun e w' => e = .returned (.bool true) ∧ Keeps (fun _ => False) w w' := by
  have HAN := fun w => Lib.hid (anchor7_calls w)
  have HNW := fun w => Lib.hid (new_calls w 4096 (by omega) (by omega))
  have HHC := Lib.hid (fun w => header_calls w kd 2 mk)
  have HQ := Lib.hid hq
  obtain ⟨i0, hi, hz0, hz1, hz2⟩ := info_parts Try.info_int
  have d1 : decide ((n : Int) < 1) = false := decide_eq_false (by omega)
  have d2 : decide ((60 : Int) < (n : Int)) = false := decide_eq_false (by omega)
  have d3 : decide ((f : Int) < 0) = false := decide_eq_false (by omega)
  have d4 : decide ((n : Int) ≤ (f : Int)) = false := decide_eq_false (by omega)
  have d5 : decide (n ≤ f) = false := decide_eq_false (by omega)
  rcases hq with ⟨rfl, rfl, rfl⟩ | ⟨rfl, rfl, rfl⟩ | ⟨rfl, rfl, rfl⟩
  · go_enter Try.func5, Try.ntmps5
    go_wp2_with fail
    refine (HAN w).out.mono ?_
    rintro e w0 ⟨rfl, hk0⟩
    have HK0 := Lib.hid hk0
    clear hk0
    go_wp2_with fail
    refine (HNW w0).out.mono ?_
    rintro e w1 ⟨B, rfl, hf1⟩
    have HST : Hid (F1 w0 w1 B P0 (HS.seqAt 4) 0 (.slice none 0 0)) := ⟨_, P0.start, hf1.out, Own.nil _ _ _, fun g hg => by simp [Value.ownBlock] at hg⟩
    clear hf1
    go_wp2
    go_loopw [8, 9, 10, 11] (fun v k _ _ wr => ∃ j : Nat, j ≤ n ∧ k = .int .i64 j ∧ Hid (F1 w0 wr B P0 (HS.seqAt 4) j v)) (fun _ k _ _ _ => n - (intOf k).toNat)
    case' atStart => exact ⟨0, Nat.zero_le _, rfl, HST⟩
    case' round =>
      clear HST
      obtain ⟨j, hj, rfl, hD⟩ := hrel
      rcases Nat.lt_or_ge j n with hlt | hlt
      case' inl =>
        obtain ⟨H, hs, hfr, hown, hvb⟩ := hD.out
        obtain ⟨H', hal, hs'⟩ := hs.step (by omega)
        have HWF := Lib.hid hs.1.wf
        have HS' := Lib.hid hs'
        have HFR := Lib.hid hfr
        have HOWN := Lib.hid hown
        have HV := Lib.hid hvb
        have HAL := Lib.hid hal
        clear hD hs hfr hown hvb hal hs'
        go_wp2_with fail
        refine (alloc_yes HFR.out.1 HWF.out HAL.out).mono ?_
        rintro e w2 ⟨rfl, hA, hK, -⟩
        have HA := Lib.hid hA
        have HK := Lib.hid hK
        have HO2 := Lib.hid (HOWN.out.keep hK (fun b hb hw => (HV.out b hb).1 (.inr hw)))
        clear hA hK
        go_wp2_with (at_builtin; refine wpList_app1 _ rfl _ _ 29 rfl 3 i0 (.int .i64 0) 8 Try.underlying_ints hi hz0 hz1 hz2 rfl (by decide) _ j _ rfl (HO2.out.alloc _) _ 1 (.int .i64 (HS.seqAt 4 j : Nat)) rfl (by simp) rfl (by omega) ?_; intro g cap w3 hO3 hK3 hg3)
        have hR' := F1.step HFR.out HS'.out HV.out HA.out HK.out hO3 hK3 hg3
        have HR' := Lib.hid hR'
        clear hO3 hK3 hg3 hR'
        go_wp2
        case roundEnd => exact ⟨⟨j + 1, by omega, by go_num, HR'.out⟩, by simp only [intOf]; omega⟩
      case' inr =>
        obtain rfl : j = n := by omega
        obtain ⟨b, cap, H, rfl, hRW⟩ := RW.of (kd := (2 : Int)) (mk := (0 : Int)) (pl := (1 : Nat)) hD.out (by omega)
        have HRW := Lib.hid hRW
        clear hD hRW hj hlt
        obtain ⟨wo, rfl⟩ : ∃ wo : World, wo = wr := ⟨_, rfl⟩
        go_wp2
        go_loopw [13] (fun c wr => ∃ k : Nat, k ≤ j ∧ c = .int .i64 k ∧ ∃ H, Hid (RW w0 wr B b cap j (2 : Int) (0 : Int) (1 : Nat) H k)) (fun c _ => j - (intOf c).toNat)
        case' atStart => exact ⟨0, Nat.zero_le _, rfl, H, HRW⟩
        case' round =>
          clear HRW
          obtain ⟨k, hk, rfl, H, hR⟩ := hrel
          rcases Nat.lt_or_ge k j with hkj | hkj
          case' inl =>
            have dk : decide (k < j) = true := decide_eq_true hkj
            obtain ⟨m, hm⟩ : ∃ m, m = (k + 1) % j := ⟨_, rfl⟩
            have hmj : m < j := by rw [hm]; exact Nat.mod_lt _ (by omega)
            have hmod : ((k : Int) + 1) % (j : Int) = (m : Int) := by rw [hm]; norm_cast
            have hmod2 : ((k : Int) + 1).tmod (j : Int) = (m : Int) := by rw [Int.tmod_eq_emod_of_nonneg (by omega)]; exact hmod
            have dz0 : ((j : Int) == 0) = false := beq_eq_false_iff_ne.2 (by omega)
            have dz1 : ¬ ((j : Int) = 0) := by omega
            have dz2 : ¬ (j = 0) := by omega
            have hb9 : (0 : Int) ≤ (m : Int) := by omega
            have hb8 : (m : Int) < (j : Int) := by omega
            have hb7 : (-9223372036854775808 : Int) ≤ (m : Int) := by omega
            have hwk : IntKind.i64.wrap ((k : Int) + 1) = (k : Int) + 1 := IntWalk.i64_in _ (by omega)
            have hwm : IntKind.i64.wrap (m : Int) = (m : Int) := IntWalk.i64_in _ (by omega)
            have hn : nxt j k = HS.seqAt 4 m := by unfold nxt; rw [← hm]
            have ck := hR.out.cell hkj
            have cm := hR.out.cell hmj
            have HRM : H.room (HS.seqAt 4 k) = 4 := hR.out.room h2 hkj
            have HR0 : Hid (∀ wx, HeapAt wx B H → Calls Try.prog 23 #[.pointer (some ⟨B.h, 0, none⟩), .int .i64 (HS.seqAt 4 k : Nat), .int .i64 0, .int .i64 (hdr (2 : Int) 2 (0 : Int))] wx fun e w' => e = .returned (.bool true) ∧ HeapAt w' B { H with words := setf H.words (HS.seqAt 4 k + 0) (hdr (2 : Int) 2 (0 : Int)) } ∧ Keeps B.wr wx w' ∧ w'.heap.size = wx.heap.size) := by
              intro wx hx
              have := store_yes hx hR.out.seq.wf (HS.seqAt 4 k : Nat) 0 (hdr (2 : Int) 2 (0 : Int)) (by omega) (by rw [HS.roomI_nat, HRM]; omega)
              rwa [show (((HS.seqAt 4 k : Nat) : Int) + 0).toNat = HS.seqAt 4 k + 0 by omega] at this
            have HR1 : Hid (∀ wx, HeapAt wx B { H with words := setf H.words (HS.seqAt 4 k + 0) (hdr (2 : Int) 2 (0 : Int)) } → Calls Try.prog 23 #[.pointer (some ⟨B.h, 0, none⟩), .int .i64 (HS.seqAt 4 k : Nat), .int .i64 (1 : Int), .int .i64 (HS.seqAt 4 m : Nat)] wx fun e w' => e = .returned (.bool true) ∧ HeapAt w' B { H with words := setf (setf H.words (HS.seqAt 4 k + 0) (hdr (2 : Int) 2 (0 : Int))) (HS.seqAt 4 k + (1 : Nat)) (nxt j k : Nat) } ∧ Keeps B.wr wx w' ∧ w'.heap.size = wx.heap.size) := by
              intro wx hx
              have := store_yes hx (hR.out.seq.wf.withWords _) (HS.seqAt 4 k : Nat) (1 : Int) (HS.seqAt 4 m : Nat) (by omega) (by show ((1 : Int) : Int) < ((H.roomI _ : Nat) : Int); rw [HS.roomI_nat, HRM]; omega)
              rw [hn]
              rwa [show (((HS.seqAt 4 k : Nat) : Int) + (1 : Int)).toNat = HS.seqAt 4 k + (1 : Nat) by omega] at this
            have HFR := Lib.hid hR.out.fresh
            have HNB := Lib.hid hR.out.nb
            have HMJ := Lib.hid (hm)
            have HP0 : Hid (Keeps (fun _ => False) wr wr.drew) := (Keeps.refl _ wr).drew
            have HPA : Hid (∀ (wx : World) (o : Obj), Hid (Keeps (fun _ => False) wr wx) → Hid (Keeps (fun _ => False) wr (wx.alloc o))) := fun wx o h => h.out.alloc o
            have HP1 : Hid (Keeps (fun _ => False) wr (wr.alloc (.cells #[.int .i64 0, .int .i64 1, .int .i64 1] 3)).drew) := ((Keeps.refl _ wr).alloc _).drew
            have hwr : IntKind.i64.wrap 0 = 0 := rfl
            have hS1 : (wr.alloc (.cells #[.int .i64 0, .int .i64 1, .int .i64 1] 3)).drew.cell? ⟨b, k, none⟩ = some (.int .i64 (HS.seqAt 4 k : Nat)) ∧ (wr.alloc (.cells #[.int .i64 0, .int .i64 1, .int .i64 1] 3)).drew.cell? ⟨wr.heap.size, 0, none⟩ = some (.int .i64 (0 : Int)) := ⟨HP1.out.cell0 ck, (Keeps.refl (fun _ => False) _).drew.cell0 (World.cell?_alloc_new wr #[.int .i64 0, .int .i64 1, .int .i64 1] 3 0)⟩
            have HRA : Hid (∀ wx, Hid (Keeps (fun _ => False) wr wx) → Calls Try.prog 23 #[.pointer (some ⟨B.h, 0, none⟩), .int .i64 (HS.seqAt 4 k : Nat), .int .i64 0, .int .i64 (hdr (2 : Int) 2 (0 : Int))] wx fun e w' => e = .returned (.bool true) ∧ w'.cell? ⟨b, k, none⟩ = some (.int .i64 (HS.seqAt 4 k : Nat)) ∧ w'.cell? ⟨b, m, none⟩ = some (.int .i64 (HS.seqAt 4 m : Nat)) ∧ Hid (HeapAt w' B { H with words := setf H.words (HS.seqAt 4 k + 0) (hdr (2 : Int) 2 (0 : Int)) } ∧ Keeps B.wr wr w')) := by
              intro wx hk
              refine (HR0.out wx (HFR.out.1.keep hk.out (fun _ _ h => h))).mono ?_
              rintro e w' ⟨rfl, hA, hK, -⟩
              have hw : ¬ B.wr b := fun h => HNB.out.1 (.inr h)
              exact ⟨rfl, hK.cell (hk.out.cell0 ck) hw, hK.cell (hk.out.cell0 cm) hw, hA, ((Keeps.refl B.wr wr).trans hk.out (fun _ _ h => h.elim)).trans hK (fun _ _ h => h)⟩
            clear cm HR0 hm hn
            go_wp2_with fail
            have hS1a := hS1.1
            have hS1b := hS1.2
            have hS0 : wr.drew.cell? ⟨b, k, none⟩ = some (.int .i64 (HS.seqAt 4 k : Nat)) := HP0.out.cell0 ck
            clear hS1 ck
            go_region_with
              (first | (go_at_call 9; refine (HHC.out _).mono ?_; rintro e w' ⟨rfl, rfl⟩) | (go_at_call 23; refine (HRA.out _ (by first | assumption | exact HPA.out _ _ (by assumption))).mono ?_; rintro e w' ⟨rfl, hs, hs2, hs3⟩))
            all_goals
              have hb0 : w'.drew.cell? ⟨b, k, none⟩ = some (.int .i64 (HS.seqAt 4 k : Nat)) := (Keeps.refl (fun _ => False) _).drew.cell0 hs
              have hb1 : w'.drew.cell? ⟨b, m, none⟩ = some (.int .i64 (HS.seqAt 4 m : Nat)) := (Keeps.refl (fun _ => False) _).drew.cell0 hs2
              have HRB : Hid (Calls Try.prog 23 #[.pointer (some ⟨B.h, 0, none⟩), .int .i64 (HS.seqAt 4 k : Nat), .int .i64 (1 : Int), .int .i64 (HS.seqAt 4 m : Nat)] w'.drew fun e w2 => e = .returned (.bool true) ∧ w2.cell? ⟨b, k, none⟩ = some (.int .i64 (HS.seqAt 4 k : Nat)) ∧ w2.cell? ⟨b, m, none⟩ = some (.int .i64 (HS.seqAt 4 m : Nat)) ∧ Hid (∃ H', RW w0 w2 B b cap j (2 : Int) (0 : Int) (1 : Nat) H' (k + 1))) := by
                refine (HR1.out w'.drew (hs3.out.1.keep ((Keeps.refl (fun _ => False) _).drew) (fun _ _ h => h))).mono ?_
                rintro e w2 ⟨rfl, hA, hK, -⟩
                have hw : ¬ B.wr b := fun h => HNB.out.1 (.inr h)
                exact ⟨rfl, hK.cell hb0 hw, hK.cell hb1 hw, _, hR.out.step (by omega) hkj hA ((hs3.out.2.drew).trans hK (fun _ _ h => h))⟩
              clear hs hs2 hs3 HR1 HRA hS0 hS1a hS1b HP0 HP1 HPA HFR HNB hR HHC
              go_wp2_with fail
              go_region_held3 (fun w2 => w2.cell? ⟨b, k, none⟩ = some (.int .i64 (HS.seqAt 4 k : Nat)) ∧ w2.cell? ⟨b, m, none⟩ = some (.int .i64 (HS.seqAt 4 m : Nat)))
                (first | exact ⟨hb0, hb1⟩ | assumption | (refine ⟨?_, ?_⟩ <;> assumption))
                (first | (go_at_call 23; refine HRB.out.mono ?_; rintro e w2 ⟨rfl, ht, ht2, ht3⟩))
              all_goals go_wp2
              all_goals exact ⟨⟨k + 1, by omega, by go_num, by obtain ⟨H', h'⟩ := ht3.out; exact ⟨H', h'⟩⟩, by simp only [intOf]; omega⟩
          case' inr =>
            obtain rfl : k = j := by omega
            have dk : decide (k < k) = false := decide_eq_false (by omega)
            have hc := hR.out.cell hf
            have HFR := Lib.hid hR.out.fresh
            have HNB := Lib.hid hR.out.nb
            have hWF := hR.out.seq.wf
            have hfs := seqAt4 f
            have hw : ¬ B.wr b := fun h => hR.out.nb.1 (.inr h)
            have HCW : Hid (∀ (wx : World) (x : Value), (wx.alloc (.cells #[x] 3)).cell? ⟨wx.heap.size, 0, none⟩ = some x) := fun wx x => by
              have := World.cell?_alloc_new wx #[x] 3 0
              simp
            have hsrc : ∀ (wx : World) g (x : Int), wx.cell? ⟨g, 0, none⟩ = some (.int .i64 x) → Src wx (.slice (some ⟨g, 0, none⟩) 1 1) [x] := fun wx g x hcell => .inr ⟨⟨g, 0, none⟩, 1, rfl, fun i u hi => by
              match i with
              | 0 => simp at hi; subst hi; simpa [Addr.add] using hcell
              | i + 1 => simp at hi⟩
            have HRE : Hid (∀ wx g, Keeps (fun _ => False) wr wx → wx.cell? ⟨g, 0, none⟩ = some (.int .i64 (HS.seqAt 4 f : Nat)) → Calls Try.prog 17 #[.pointer (some ⟨B.h, 0, none⟩), .slice (some ⟨g, 0, none⟩) 1 1] wx fun e w' => ∃ a1 c1, e = .returned (.slice a1 k c1) ∧ Keeps (fun _ => False) wr w' ∧ w'.cell? ⟨b, f, none⟩ = some (.int .i64 (HS.seqAt 4 f : Nat))) := by
              intro wx g hk hcell
              refine (reached_calls (HFR.out.1.keep hk (fun _ _ h => h)) hWF (hsrc _ _ _ hcell) (fun ad n c h => by cases h; rfl) (by simp) (fun y hy => by simp at hy; subst hy; exact wf_small (by omega) (by omega))).mono ?_
              rintro e w' ⟨a1, c1, l, rfl, hm⟩
              refine ⟨a1, c1, ?_, hk.trans hm.out.1.keeps (fun _ _ h => h), (hk.trans hm.out.1.keeps (fun _ _ h => h)).cell0 hc⟩
              rw [hR.out.reached h2 HQ.out hf hm.out.2.1 hm.out.2.2]
            have HCO : Hid (∀ wx g, Keeps (fun _ => False) wr wx → wx.cell? ⟨g, 0, none⟩ = some (.int .i64 (HS.seqAt 4 f : Nat)) → Calls Try.prog 18 #[.pointer (some ⟨B.h, 0, none⟩), .slice (some ⟨g, 0, none⟩) 1 1] wx fun e w' => e = .returned (.int .i64 0) ∧ w'.cell? ⟨b, f, none⟩ = some (.int .i64 (HS.seqAt 4 f : Nat)) ∧ ∃ H', Hid (HeapAt w' B H' ∧ H'.Wf ∧ H'.blocks.length = k ∧ Keeps B.wr wr w')) := by
              intro wx g hk hcell
              refine (collect_calls (HFR.out.1.keep hk (fun _ _ h => h)) hWF (hsrc _ _ _ hcell) (fun ad n c h => by cases h; rfl) (by simp) (fun y hy => by simp at hy; subst hy; exact wf_small (by omega) (by omega))).mono ?_
              rintro e w' ⟨c', rfl, H', hm⟩
              have hs := hR.out.swept h2 HQ.out hf hm.out.2.1
              obtain ⟨hs1, hs2⟩ := hs
              subst hs1
              have hK := ((Keeps.refl B.wr wr).trans hk (fun _ _ h => h.elim)).trans hm.out.2.2 (fun _ _ h => h)
              exact ⟨rfl, hK.cell hc hw, H', hm.out.1, hm.out.2.1.wf, hs2, hK⟩
            have HC2 : Hid (∀ wx g H1, HeapAt wx B H1 → H1.Wf → H1.blocks.length = k → Keeps B.wr wr wx → wx.cell? ⟨g, 0, none⟩ = some (.int .i64 ((HS.seqAt 4 f : Nat) + 1)) → Calls Try.prog 18 #[.pointer (some ⟨B.h, 0, none⟩), .slice (some ⟨g, 0, none⟩) 1 1] wx fun e w' => e = .returned (.int .i64 k) ∧ ∃ H', Hid (HeapAt w' B H' ∧ H'.Wf ∧ H'.blocks.length = 0 ∧ Keeps B.wr wr w')) := by
              intro wx g H1 hA hW hb hkw hcell
              refine (collect_calls hA hW (hsrc _ _ _ hcell) (fun ad n c h => by cases h; rfl) (by simp) (fun y hy => by simp at hy; subst hy; exact wf_small (by omega) (by omega))).mono ?_
              rintro e w' ⟨c', rfl, H', hm⟩
              obtain ⟨hs1, hs2⟩ := odd_swept hW (by omega) hm.out.2.1
              rw [hb] at hs1
              exact ⟨by rw [hs1], H', hm.out.1, hm.out.2.1.wf, hs2, hkw.trans hm.out.2.2 (fun _ _ h => h)⟩
            have HFIN : Hid (∀ wx, Keeps B.wr wr wx → Keeps (fun _ => False) w wx) := fun wx hk => HK0.out.trans (HFR.out.2.1.trans hk (fun k hk hw => by have := HFR.out.2.2 k (.inr hw); omega)) (fun _ _ h => h)
            have hlo : (0 : Int) ≤ (HS.seqAt 4 f : Nat) := by omega
            have hhi : ((HS.seqAt 4 f : Nat) : Int) < 10000 := by omega
            clear hR hWF hfs hsrc HFR HNB HK0
            generalize HS.seqAt 4 f = sf at *
            go_wp2_with fail
            refine (HRE.out _ _ ((Keeps.refl _ wr).alloc _) (HCW.out _ _)).mono ?_
            rintro e w5 ⟨a1, c1, rfl, hk5, hc5⟩
            go_wp2_with fail
            refine (HCO.out _ _ (hk5.alloc _) (HCW.out _ _)).mono ?_
            rintro e w6 ⟨rfl, hc6, H6, h6⟩
            clear hk5 hc5 hc HRE HCO
            go_wp2_with fail
            refine (HC2.out _ _ H6 (h6.out.1.keep ((Keeps.refl (fun _ => False) _).alloc _) (fun _ _ h => h)) h6.out.2.1 h6.out.2.2.1 (h6.out.2.2.2.alloc _) (HCW.out _ _)).mono ?_
            rintro e w7 ⟨rfl, H7, h7⟩
            clear hc6 h6 HC2
            have HBL := Lib.hid (blocks_calls h7.out.1 h7.out.2.1)
            rw [h7.out.2.2.1] at HBL
            go_wp2_with fail
            refine HBL.out.mono ?_
            rintro e w8 ⟨a8, c8, rfl, hm8⟩
            have HKF : Hid (Keeps (fun _ => False) w w8) := HFIN.out _ (h7.out.2.2.2.trans hm8.out.keeps (fun _ _ h => h.elim))
            clear hm8 h7 HBL
            go_wp2
            go_ret
            exact ⟨rfl, HKF.out⟩
  · go_enter Try.func5, Try.ntmps5
    go_wp2_with fail
    refine (HAN w).out.mono ?_
    rintro e w0 ⟨rfl, hk0⟩
    have HK0 := Lib.hid hk0
    clear hk0
    go_wp2_with fail
    refine (HNW w0).out.mono ?_
    rintro e w1 ⟨B, rfl, hf1⟩
    have HST : Hid (F1 w0 w1 B P0 (HS.seqAt 4) 0 (.slice none 0 0)) := ⟨_, P0.start, hf1.out, Own.nil _ _ _, fun g hg => by simp [Value.ownBlock] at hg⟩
    clear hf1
    go_wp2
    go_loopw [8, 9, 10, 11] (fun v k _ _ wr => ∃ j : Nat, j ≤ n ∧ k = .int .i64 j ∧ Hid (F1 w0 wr B P0 (HS.seqAt 4) j v)) (fun _ k _ _ _ => n - (intOf k).toNat)
    case' atStart => exact ⟨0, Nat.zero_le _, rfl, HST⟩
    case' round =>
      clear HST
      obtain ⟨j, hj, rfl, hD⟩ := hrel
      rcases Nat.lt_or_ge j n with hlt | hlt
      case' inl =>
        obtain ⟨H, hs, hfr, hown, hvb⟩ := hD.out
        obtain ⟨H', hal, hs'⟩ := hs.step (by omega)
        have HWF := Lib.hid hs.1.wf
        have HS' := Lib.hid hs'
        have HFR := Lib.hid hfr
        have HOWN := Lib.hid hown
        have HV := Lib.hid hvb
        have HAL := Lib.hid hal
        clear hD hs hfr hown hvb hal hs'
        go_wp2_with fail
        refine (alloc_yes HFR.out.1 HWF.out HAL.out).mono ?_
        rintro e w2 ⟨rfl, hA, hK, -⟩
        have HA := Lib.hid hA
        have HK := Lib.hid hK
        have HO2 := Lib.hid (HOWN.out.keep hK (fun b hb hw => (HV.out b hb).1 (.inr hw)))
        clear hA hK
        go_wp2_with (at_builtin; refine wpList_app1 _ rfl _ _ 29 rfl 3 i0 (.int .i64 0) 8 Try.underlying_ints hi hz0 hz1 hz2 rfl (by decide) _ j _ rfl (HO2.out.alloc _) _ 1 (.int .i64 (HS.seqAt 4 j : Nat)) rfl (by simp) rfl (by omega) ?_; intro g cap w3 hO3 hK3 hg3)
        have hR' := F1.step HFR.out HS'.out HV.out HA.out HK.out hO3 hK3 hg3
        have HR' := Lib.hid hR'
        clear hO3 hK3 hg3 hR'
        go_wp2
        case roundEnd => exact ⟨⟨j + 1, by omega, by go_num, HR'.out⟩, by simp only [intOf]; omega⟩
      case' inr =>
        obtain rfl : j = n := by omega
        obtain ⟨b, cap, H, rfl, hRW⟩ := RW.of (kd := (3 : Int)) (mk := (1 : Int)) (pl := (2 : Nat)) hD.out (by omega)
        have HRW := Lib.hid hRW
        clear hD hRW hj hlt
        obtain ⟨wo, rfl⟩ : ∃ wo : World, wo = wr := ⟨_, rfl⟩
        go_wp2
        go_loopw [13] (fun c wr => ∃ k : Nat, k ≤ j ∧ c = .int .i64 k ∧ ∃ H, Hid (RW w0 wr B b cap j (3 : Int) (1 : Int) (2 : Nat) H k)) (fun c _ => j - (intOf c).toNat)
        case' atStart => exact ⟨0, Nat.zero_le _, rfl, H, HRW⟩
        case' round =>
          clear HRW
          obtain ⟨k, hk, rfl, H, hR⟩ := hrel
          rcases Nat.lt_or_ge k j with hkj | hkj
          case' inl =>
            have dk : decide (k < j) = true := decide_eq_true hkj
            obtain ⟨m, hm⟩ : ∃ m, m = (k + 1) % j := ⟨_, rfl⟩
            have hmj : m < j := by rw [hm]; exact Nat.mod_lt _ (by omega)
            have hmod : ((k : Int) + 1) % (j : Int) = (m : Int) := by rw [hm]; norm_cast
            have hmod2 : ((k : Int) + 1).tmod (j : Int) = (m : Int) := by rw [Int.tmod_eq_emod_of_nonneg (by omega)]; exact hmod
            have dz0 : ((j : Int) == 0) = false := beq_eq_false_iff_ne.2 (by omega)
            have dz1 : ¬ ((j : Int) = 0) := by omega
            have dz2 : ¬ (j = 0) := by omega
            have hb9 : (0 : Int) ≤ (m : Int) := by omega
            have hb8 : (m : Int) < (j : Int) := by omega
            have hb7 : (-9223372036854775808 : Int) ≤ (m : Int) := by omega
            have hwk : IntKind.i64.wrap ((k : Int) + 1) = (k : Int) + 1 := IntWalk.i64_in _ (by omega)
            have hwm : IntKind.i64.wrap (m : Int) = (m : Int) := IntWalk.i64_in _ (by omega)
            have hn : nxt j k = HS.seqAt 4 m := by unfold nxt; rw [← hm]
            have ck := hR.out.cell hkj
            have cm := hR.out.cell hmj
            have HRM : H.room (HS.seqAt 4 k) = 4 := hR.out.room h2 hkj
            have HR0 : Hid (∀ wx, HeapAt wx B H → Calls Try.prog 23 #[.pointer (some ⟨B.h, 0, none⟩), .int .i64 (HS.seqAt 4 k : Nat), .int .i64 0, .int .i64 (hdr (3 : Int) 2 (1 : Int))] wx fun e w' => e = .returned (.bool true) ∧ HeapAt w' B { H with words := setf H.words (HS.seqAt 4 k + 0) (hdr (3 : Int) 2 (1 : Int)) } ∧ Keeps B.wr wx w' ∧ w'.heap.size = wx.heap.size) := by
              intro wx hx
              have := store_yes hx hR.out.seq.wf (HS.seqAt 4 k : Nat) 0 (hdr (3 : Int) 2 (1 : Int)) (by omega) (by rw [HS.roomI_nat, HRM]; omega)
              rwa [show (((HS.seqAt 4 k : Nat) : Int) + 0).toNat = HS.seqAt 4 k + 0 by omega] at this
            have HR1 : Hid (∀ wx, HeapAt wx B { H with words := setf H.words (HS.seqAt 4 k + 0) (hdr (3 : Int) 2 (1 : Int)) } → Calls Try.prog 23 #[.pointer (some ⟨B.h, 0, none⟩), .int .i64 (HS.seqAt 4 k : Nat), .int .i64 (2 : Int), .int .i64 (HS.seqAt 4 m : Nat)] wx fun e w' => e = .returned (.bool true) ∧ HeapAt w' B { H with words := setf (setf H.words (HS.seqAt 4 k + 0) (hdr (3 : Int) 2 (1 : Int))) (HS.seqAt 4 k + (2 : Nat)) (nxt j k : Nat) } ∧ Keeps B.wr wx w' ∧ w'.heap.size = wx.heap.size) := by
              intro wx hx
              have := store_yes hx (hR.out.seq.wf.withWords _) (HS.seqAt 4 k : Nat) (2 : Int) (HS.seqAt 4 m : Nat) (by omega) (by show ((2 : Int) : Int) < ((H.roomI _ : Nat) : Int); rw [HS.roomI_nat, HRM]; omega)
              rw [hn]
              rwa [show (((HS.seqAt 4 k : Nat) : Int) + (2 : Int)).toNat = HS.seqAt 4 k + (2 : Nat) by omega] at this
            have HFR := Lib.hid hR.out.fresh
            have HNB := Lib.hid hR.out.nb
            have HMJ := Lib.hid (hm)
            have HP0 : Hid (Keeps (fun _ => False) wr wr.drew) := (Keeps.refl _ wr).drew
            have HPA : Hid (∀ (wx : World) (o : Obj), Hid (Keeps (fun _ => False) wr wx) → Hid (Keeps (fun _ => False) wr (wx.alloc o))) := fun wx o h => h.out.alloc o
            have HP1 : Hid (Keeps (fun _ => False) wr (wr.alloc (.cells #[.int .i64 0, .int .i64 1, .int .i64 1] 3)).drew) := ((Keeps.refl _ wr).alloc _).drew
            have hwr : IntKind.i64.wrap 1 = 1 := rfl
            have hS1 : (wr.alloc (.cells #[.int .i64 0, .int .i64 1, .int .i64 1] 3)).drew.cell? ⟨b, k, none⟩ = some (.int .i64 (HS.seqAt 4 k : Nat)) ∧ (wr.alloc (.cells #[.int .i64 0, .int .i64 1, .int .i64 1] 3)).drew.cell? ⟨wr.heap.size, 1, none⟩ = some (.int .i64 (1 : Int)) := ⟨HP1.out.cell0 ck, (Keeps.refl (fun _ => False) _).drew.cell0 (World.cell?_alloc_new wr #[.int .i64 0, .int .i64 1, .int .i64 1] 3 1)⟩
            have HRA : Hid (∀ wx, Hid (Keeps (fun _ => False) wr wx) → Calls Try.prog 23 #[.pointer (some ⟨B.h, 0, none⟩), .int .i64 (HS.seqAt 4 k : Nat), .int .i64 0, .int .i64 (hdr (3 : Int) 2 (1 : Int))] wx fun e w' => e = .returned (.bool true) ∧ w'.cell? ⟨b, k, none⟩ = some (.int .i64 (HS.seqAt 4 k : Nat)) ∧ w'.cell? ⟨b, m, none⟩ = some (.int .i64 (HS.seqAt 4 m : Nat)) ∧ Hid (HeapAt w' B { H with words := setf H.words (HS.seqAt 4 k + 0) (hdr (3 : Int) 2 (1 : Int)) } ∧ Keeps B.wr wr w')) := by
              intro wx hk
              refine (HR0.out wx (HFR.out.1.keep hk.out (fun _ _ h => h))).mono ?_
              rintro e w' ⟨rfl, hA, hK, -⟩
              have hw : ¬ B.wr b := fun h => HNB.out.1 (.inr h)
              exact ⟨rfl, hK.cell (hk.out.cell0 ck) hw, hK.cell (hk.out.cell0 cm) hw, hA, ((Keeps.refl B.wr wr).trans hk.out (fun _ _ h => h.elim)).trans hK (fun _ _ h => h)⟩
            clear cm HR0 hm hn
            go_wp2_with fail
            have hS1a := hS1.1
            have hS1b := hS1.2
            have hS0 : wr.drew.cell? ⟨b, k, none⟩ = some (.int .i64 (HS.seqAt 4 k : Nat)) := HP0.out.cell0 ck
            clear hS1 ck
            go_region_with
              (first | (go_at_call 9; refine (HHC.out _).mono ?_; rintro e w' ⟨rfl, rfl⟩) | (go_at_call 23; refine (HRA.out _ (by first | assumption | exact HPA.out _ _ (by assumption))).mono ?_; rintro e w' ⟨rfl, hs, hs2, hs3⟩))
            all_goals
              have hb0 : w'.drew.cell? ⟨b, k, none⟩ = some (.int .i64 (HS.seqAt 4 k : Nat)) := (Keeps.refl (fun _ => False) _).drew.cell0 hs
              have hb1 : w'.drew.cell? ⟨b, m, none⟩ = some (.int .i64 (HS.seqAt 4 m : Nat)) := (Keeps.refl (fun _ => False) _).drew.cell0 hs2
              have HRB : Hid (Calls Try.prog 23 #[.pointer (some ⟨B.h, 0, none⟩), .int .i64 (HS.seqAt 4 k : Nat), .int .i64 (2 : Int), .int .i64 (HS.seqAt 4 m : Nat)] w'.drew fun e w2 => e = .returned (.bool true) ∧ w2.cell? ⟨b, k, none⟩ = some (.int .i64 (HS.seqAt 4 k : Nat)) ∧ w2.cell? ⟨b, m, none⟩ = some (.int .i64 (HS.seqAt 4 m : Nat)) ∧ Hid (∃ H', RW w0 w2 B b cap j (3 : Int) (1 : Int) (2 : Nat) H' (k + 1))) := by
                refine (HR1.out w'.drew (hs3.out.1.keep ((Keeps.refl (fun _ => False) _).drew) (fun _ _ h => h))).mono ?_
                rintro e w2 ⟨rfl, hA, hK, -⟩
                have hw : ¬ B.wr b := fun h => HNB.out.1 (.inr h)
                exact ⟨rfl, hK.cell hb0 hw, hK.cell hb1 hw, _, hR.out.step (by omega) hkj hA ((hs3.out.2.drew).trans hK (fun _ _ h => h))⟩
              clear hs hs2 hs3 HR1 HRA hS0 hS1a hS1b HP0 HP1 HPA HFR HNB hR HHC
              go_wp2_with fail
              go_region_held3 (fun w2 => w2.cell? ⟨b, k, none⟩ = some (.int .i64 (HS.seqAt 4 k : Nat)) ∧ w2.cell? ⟨b, m, none⟩ = some (.int .i64 (HS.seqAt 4 m : Nat)))
                (first | exact ⟨hb0, hb1⟩ | assumption | (refine ⟨?_, ?_⟩ <;> assumption))
                (first | (go_at_call 23; refine HRB.out.mono ?_; rintro e w2 ⟨rfl, ht, ht2, ht3⟩))
              all_goals go_wp2
              all_goals exact ⟨⟨k + 1, by omega, by go_num, by obtain ⟨H', h'⟩ := ht3.out; exact ⟨H', h'⟩⟩, by simp only [intOf]; omega⟩
          case' inr =>
            obtain rfl : k = j := by omega
            have dk : decide (k < k) = false := decide_eq_false (by omega)
            have hc := hR.out.cell hf
            have HFR := Lib.hid hR.out.fresh
            have HNB := Lib.hid hR.out.nb
            have hWF := hR.out.seq.wf
            have hfs := seqAt4 f
            have hw : ¬ B.wr b := fun h => hR.out.nb.1 (.inr h)
            have HCW : Hid (∀ (wx : World) (x : Value), (wx.alloc (.cells #[x] 3)).cell? ⟨wx.heap.size, 0, none⟩ = some x) := fun wx x => by
              have := World.cell?_alloc_new wx #[x] 3 0
              simp
            have hsrc : ∀ (wx : World) g (x : Int), wx.cell? ⟨g, 0, none⟩ = some (.int .i64 x) → Src wx (.slice (some ⟨g, 0, none⟩) 1 1) [x] := fun wx g x hcell => .inr ⟨⟨g, 0, none⟩, 1, rfl, fun i u hi => by
              match i with
              | 0 => simp at hi; subst hi; simpa [Addr.add] using hcell
              | i + 1 => simp at hi⟩
            have HRE : Hid (∀ wx g, Keeps (fun _ => False) wr wx → wx.cell? ⟨g, 0, none⟩ = some (.int .i64 (HS.seqAt 4 f : Nat)) → Calls Try.prog 17 #[.pointer (some ⟨B.h, 0, none⟩), .slice (some ⟨g, 0, none⟩) 1 1] wx fun e w' => ∃ a1 c1, e = .returned (.slice a1 k c1) ∧ Keeps (fun _ => False) wr w' ∧ w'.cell? ⟨b, f, none⟩ = some (.int .i64 (HS.seqAt 4 f : Nat))) := by
              intro wx g hk hcell
              refine (reached_calls (HFR.out.1.keep hk (fun _ _ h => h)) hWF (hsrc _ _ _ hcell) (fun ad n c h => by cases h; rfl) (by simp) (fun y hy => by simp at hy; subst hy; exact wf_small (by omega) (by omega))).mono ?_
              rintro e w' ⟨a1, c1, l, rfl, hm⟩
              refine ⟨a1, c1, ?_, hk.trans hm.out.1.keeps (fun _ _ h => h), (hk.trans hm.out.1.keeps (fun _ _ h => h)).cell0 hc⟩
              rw [hR.out.reached h2 HQ.out hf hm.out.2.1 hm.out.2.2]
            have HCO : Hid (∀ wx g, Keeps (fun _ => False) wr wx → wx.cell? ⟨g, 0, none⟩ = some (.int .i64 (HS.seqAt 4 f : Nat)) → Calls Try.prog 18 #[.pointer (some ⟨B.h, 0, none⟩), .slice (some ⟨g, 0, none⟩) 1 1] wx fun e w' => e = .returned (.int .i64 0) ∧ w'.cell? ⟨b, f, none⟩ = some (.int .i64 (HS.seqAt 4 f : Nat)) ∧ ∃ H', Hid (HeapAt w' B H' ∧ H'.Wf ∧ H'.blocks.length = k ∧ Keeps B.wr wr w')) := by
              intro wx g hk hcell
              refine (collect_calls (HFR.out.1.keep hk (fun _ _ h => h)) hWF (hsrc _ _ _ hcell) (fun ad n c h => by cases h; rfl) (by simp) (fun y hy => by simp at hy; subst hy; exact wf_small (by omega) (by omega))).mono ?_
              rintro e w' ⟨c', rfl, H', hm⟩
              have hs := hR.out.swept h2 HQ.out hf hm.out.2.1
              obtain ⟨hs1, hs2⟩ := hs
              subst hs1
              have hK := ((Keeps.refl B.wr wr).trans hk (fun _ _ h => h.elim)).trans hm.out.2.2 (fun _ _ h => h)
              exact ⟨rfl, hK.cell hc hw, H', hm.out.1, hm.out.2.1.wf, hs2, hK⟩
            have HC2 : Hid (∀ wx g H1, HeapAt wx B H1 → H1.Wf → H1.blocks.length = k → Keeps B.wr wr wx → wx.cell? ⟨g, 0, none⟩ = some (.int .i64 ((HS.seqAt 4 f : Nat) + 1)) → Calls Try.prog 18 #[.pointer (some ⟨B.h, 0, none⟩), .slice (some ⟨g, 0, none⟩) 1 1] wx fun e w' => e = .returned (.int .i64 k) ∧ ∃ H', Hid (HeapAt w' B H' ∧ H'.Wf ∧ H'.blocks.length = 0 ∧ Keeps B.wr wr w')) := by
              intro wx g H1 hA hW hb hkw hcell
              refine (collect_calls hA hW (hsrc _ _ _ hcell) (fun ad n c h => by cases h; rfl) (by simp) (fun y hy => by simp at hy; subst hy; exact wf_small (by omega) (by omega))).mono ?_
              rintro e w' ⟨c', rfl, H', hm⟩
              obtain ⟨hs1, hs2⟩ := odd_swept hW (by omega) hm.out.2.1
              rw [hb] at hs1
              exact ⟨by rw [hs1], H', hm.out.1, hm.out.2.1.wf, hs2, hkw.trans hm.out.2.2 (fun _ _ h => h)⟩
            have HFIN : Hid (∀ wx, Keeps B.wr wr wx → Keeps (fun _ => False) w wx) := fun wx hk => HK0.out.trans (HFR.out.2.1.trans hk (fun k hk hw => by have := HFR.out.2.2 k (.inr hw); omega)) (fun _ _ h => h)
            have hlo : (0 : Int) ≤ (HS.seqAt 4 f : Nat) := by omega
            have hhi : ((HS.seqAt 4 f : Nat) : Int) < 10000 := by omega
            clear hR hWF hfs hsrc HFR HNB HK0
            generalize HS.seqAt 4 f = sf at *
            go_wp2_with fail
            refine (HRE.out _ _ ((Keeps.refl _ wr).alloc _) (HCW.out _ _)).mono ?_
            rintro e w5 ⟨a1, c1, rfl, hk5, hc5⟩
            go_wp2_with fail
            refine (HCO.out _ _ (hk5.alloc _) (HCW.out _ _)).mono ?_
            rintro e w6 ⟨rfl, hc6, H6, h6⟩
            clear hk5 hc5 hc HRE HCO
            go_wp2_with fail
            refine (HC2.out _ _ H6 (h6.out.1.keep ((Keeps.refl (fun _ => False) _).alloc _) (fun _ _ h => h)) h6.out.2.1 h6.out.2.2.1 (h6.out.2.2.2.alloc _) (HCW.out _ _)).mono ?_
            rintro e w7 ⟨rfl, H7, h7⟩
            clear hc6 h6 HC2
            have HBL := Lib.hid (blocks_calls h7.out.1 h7.out.2.1)
            rw [h7.out.2.2.1] at HBL
            go_wp2_with fail
            refine HBL.out.mono ?_
            rintro e w8 ⟨a8, c8, rfl, hm8⟩
            have HKF : Hid (Keeps (fun _ => False) w w8) := HFIN.out _ (h7.out.2.2.2.trans hm8.out.keeps (fun _ _ h => h.elim))
            clear hm8 h7 HBL
            go_wp2
            go_ret
            exact ⟨rfl, HKF.out⟩
  · go_enter Try.func5, Try.ntmps5
    go_wp2_with fail
    refine (HAN w).out.mono ?_
    rintro e w0 ⟨rfl, hk0⟩
    have HK0 := Lib.hid hk0
    clear hk0
    go_wp2_with fail
    refine (HNW w0).out.mono ?_
    rintro e w1 ⟨B, rfl, hf1⟩
    have HST : Hid (F1 w0 w1 B P0 (HS.seqAt 4) 0 (.slice none 0 0)) := ⟨_, P0.start, hf1.out, Own.nil _ _ _, fun g hg => by simp [Value.ownBlock] at hg⟩
    clear hf1
    go_wp2
    go_loopw [8, 9, 10, 11] (fun v k _ _ wr => ∃ j : Nat, j ≤ n ∧ k = .int .i64 j ∧ Hid (F1 w0 wr B P0 (HS.seqAt 4) j v)) (fun _ k _ _ _ => n - (intOf k).toNat)
    case' atStart => exact ⟨0, Nat.zero_le _, rfl, HST⟩
    case' round =>
      clear HST
      obtain ⟨j, hj, rfl, hD⟩ := hrel
      rcases Nat.lt_or_ge j n with hlt | hlt
      case' inl =>
        obtain ⟨H, hs, hfr, hown, hvb⟩ := hD.out
        obtain ⟨H', hal, hs'⟩ := hs.step (by omega)
        have HWF := Lib.hid hs.1.wf
        have HS' := Lib.hid hs'
        have HFR := Lib.hid hfr
        have HOWN := Lib.hid hown
        have HV := Lib.hid hvb
        have HAL := Lib.hid hal
        clear hD hs hfr hown hvb hal hs'
        go_wp2_with fail
        refine (alloc_yes HFR.out.1 HWF.out HAL.out).mono ?_
        rintro e w2 ⟨rfl, hA, hK, -⟩
        have HA := Lib.hid hA
        have HK := Lib.hid hK
        have HO2 := Lib.hid (HOWN.out.keep hK (fun b hb hw => (HV.out b hb).1 (.inr hw)))
        clear hA hK
        go_wp2_with (at_builtin; refine wpList_app1 _ rfl _ _ 29 rfl 3 i0 (.int .i64 0) 8 Try.underlying_ints hi hz0 hz1 hz2 rfl (by decide) _ j _ rfl (HO2.out.alloc _) _ 1 (.int .i64 (HS.seqAt 4 j : Nat)) rfl (by simp) rfl (by omega) ?_; intro g cap w3 hO3 hK3 hg3)
        have hR' := F1.step HFR.out HS'.out HV.out HA.out HK.out hO3 hK3 hg3
        have HR' := Lib.hid hR'
        clear hO3 hK3 hg3 hR'
        go_wp2
        case roundEnd => exact ⟨⟨j + 1, by omega, by go_num, HR'.out⟩, by simp only [intOf]; omega⟩
      case' inr =>
        obtain rfl : j = n := by omega
        obtain ⟨b, cap, H, rfl, hRW⟩ := RW.of (kd := (4 : Int)) (mk := (1 : Int)) (pl := (1 : Nat)) hD.out (by omega)
        have HRW := Lib.hid hRW
        clear hD hRW hj hlt
        obtain ⟨wo, rfl⟩ : ∃ wo : World, wo = wr := ⟨_, rfl⟩
        go_wp2
        go_loopw [13] (fun c wr => ∃ k : Nat, k ≤ j ∧ c = .int .i64 k ∧ ∃ H, Hid (RW w0 wr B b cap j (4 : Int) (1 : Int) (1 : Nat) H k)) (fun c _ => j - (intOf c).toNat)
        case' atStart => exact ⟨0, Nat.zero_le _, rfl, H, HRW⟩
        case' round =>
          clear HRW
          obtain ⟨k, hk, rfl, H, hR⟩ := hrel
          rcases Nat.lt_or_ge k j with hkj | hkj
          case' inl =>
            have dk : decide (k < j) = true := decide_eq_true hkj
            obtain ⟨m, hm⟩ : ∃ m, m = (k + 1) % j := ⟨_, rfl⟩
            have hmj : m < j := by rw [hm]; exact Nat.mod_lt _ (by omega)
            have hmod : ((k : Int) + 1) % (j : Int) = (m : Int) := by rw [hm]; norm_cast
            have hmod2 : ((k : Int) + 1).tmod (j : Int) = (m : Int) := by rw [Int.tmod_eq_emod_of_nonneg (by omega)]; exact hmod
            have dz0 : ((j : Int) == 0) = false := beq_eq_false_iff_ne.2 (by omega)
            have dz1 : ¬ ((j : Int) = 0) := by omega
            have dz2 : ¬ (j = 0) := by omega
            have hb9 : (0 : Int) ≤ (m : Int) := by omega
            have hb8 : (m : Int) < (j : Int) := by omega
            have hb7 : (-9223372036854775808 : Int) ≤ (m : Int) := by omega
            have hwk : IntKind.i64.wrap ((k : Int) + 1) = (k : Int) + 1 := IntWalk.i64_in _ (by omega)
            have hwm : IntKind.i64.wrap (m : Int) = (m : Int) := IntWalk.i64_in _ (by omega)
            have hn : nxt j k = HS.seqAt 4 m := by unfold nxt; rw [← hm]
            have ck := hR.out.cell hkj
            have cm := hR.out.cell hmj
            have HRM : H.room (HS.seqAt 4 k) = 4 := hR.out.room h2 hkj
            have HR0 : Hid (∀ wx, HeapAt wx B H → Calls Try.prog 23 #[.pointer (some ⟨B.h, 0, none⟩), .int .i64 (HS.seqAt 4 k : Nat), .int .i64 0, .int .i64 (hdr (4 : Int) 2 (1 : Int))] wx fun e w' => e = .returned (.bool true) ∧ HeapAt w' B { H with words := setf H.words (HS.seqAt 4 k + 0) (hdr (4 : Int) 2 (1 : Int)) } ∧ Keeps B.wr wx w' ∧ w'.heap.size = wx.heap.size) := by
              intro wx hx
              have := store_yes hx hR.out.seq.wf (HS.seqAt 4 k : Nat) 0 (hdr (4 : Int) 2 (1 : Int)) (by omega) (by rw [HS.roomI_nat, HRM]; omega)
              rwa [show (((HS.seqAt 4 k : Nat) : Int) + 0).toNat = HS.seqAt 4 k + 0 by omega] at this
            have HR1 : Hid (∀ wx, HeapAt wx B { H with words := setf H.words (HS.seqAt 4 k + 0) (hdr (4 : Int) 2 (1 : Int)) } → Calls Try.prog 23 #[.pointer (some ⟨B.h, 0, none⟩), .int .i64 (HS.seqAt 4 k : Nat), .int .i64 (1 : Int), .int .i64 (HS.seqAt 4 m : Nat)] wx fun e w' => e = .returned (.bool true) ∧ HeapAt w' B { H with words := setf (setf H.words (HS.seqAt 4 k + 0) (hdr (4 : Int) 2 (1 : Int))) (HS.seqAt 4 k + (1 : Nat)) (nxt j k : Nat) } ∧ Keeps B.wr wx w' ∧ w'.heap.size = wx.heap.size) := by
              intro wx hx
              have := store_yes hx (hR.out.seq.wf.withWords _) (HS.seqAt 4 k : Nat) (1 : Int) (HS.seqAt 4 m : Nat) (by omega) (by show ((1 : Int) : Int) < ((H.roomI _ : Nat) : Int); rw [HS.roomI_nat, HRM]; omega)
              rw [hn]
              rwa [show (((HS.seqAt 4 k : Nat) : Int) + (1 : Int)).toNat = HS.seqAt 4 k + (1 : Nat) by omega] at this
            have HFR := Lib.hid hR.out.fresh
            have HNB := Lib.hid hR.out.nb
            have HMJ := Lib.hid (hm)
            have HP0 : Hid (Keeps (fun _ => False) wr wr.drew) := (Keeps.refl _ wr).drew
            have HPA : Hid (∀ (wx : World) (o : Obj), Hid (Keeps (fun _ => False) wr wx) → Hid (Keeps (fun _ => False) wr (wx.alloc o))) := fun wx o h => h.out.alloc o
            have HP1 : Hid (Keeps (fun _ => False) wr (wr.alloc (.cells #[.int .i64 0, .int .i64 1, .int .i64 1] 3)).drew) := ((Keeps.refl _ wr).alloc _).drew
            have hwr : IntKind.i64.wrap 2 = 2 := rfl
            have hS1 : (wr.alloc (.cells #[.int .i64 0, .int .i64 1, .int .i64 1] 3)).drew.cell? ⟨b, k, none⟩ = some (.int .i64 (HS.seqAt 4 k : Nat)) ∧ (wr.alloc (.cells #[.int .i64 0, .int .i64 1, .int .i64 1] 3)).drew.cell? ⟨wr.heap.size, 2, none⟩ = some (.int .i64 (1 : Int)) := ⟨HP1.out.cell0 ck, (Keeps.refl (fun _ => False) _).drew.cell0 (World.cell?_alloc_new wr #[.int .i64 0, .int .i64 1, .int .i64 1] 3 2)⟩
            have HRA : Hid (∀ wx, Hid (Keeps (fun _ => False) wr wx) → Calls Try.prog 23 #[.pointer (some ⟨B.h, 0, none⟩), .int .i64 (HS.seqAt 4 k : Nat), .int .i64 0, .int .i64 (hdr (4 : Int) 2 (1 : Int))] wx fun e w' => e = .returned (.bool true) ∧ w'.cell? ⟨b, k, none⟩ = some (.int .i64 (HS.seqAt 4 k : Nat)) ∧ w'.cell? ⟨b, m, none⟩ = some (.int .i64 (HS.seqAt 4 m : Nat)) ∧ Hid (HeapAt w' B { H with words := setf H.words (HS.seqAt 4 k + 0) (hdr (4 : Int) 2 (1 : Int)) } ∧ Keeps B.wr wr w')) := by
              intro wx hk
              refine (HR0.out wx (HFR.out.1.keep hk.out (fun _ _ h => h))).mono ?_
              rintro e w' ⟨rfl, hA, hK, -⟩
              have hw : ¬ B.wr b := fun h => HNB.out.1 (.inr h)
              exact ⟨rfl, hK.cell (hk.out.cell0 ck) hw, hK.cell (hk.out.cell0 cm) hw, hA, ((Keeps.refl B.wr wr).trans hk.out (fun _ _ h => h.elim)).trans hK (fun _ _ h => h)⟩
            clear cm HR0 hm hn
            go_wp2_with fail
            have hS1a := hS1.1
            have hS1b := hS1.2
            have hS0 : wr.drew.cell? ⟨b, k, none⟩ = some (.int .i64 (HS.seqAt 4 k : Nat)) := HP0.out.cell0 ck
            clear hS1 ck
            go_region_with
              (first | (go_at_call 9; refine (HHC.out _).mono ?_; rintro e w' ⟨rfl, rfl⟩) | (go_at_call 23; refine (HRA.out _ (by first | assumption | exact HPA.out _ _ (by assumption))).mono ?_; rintro e w' ⟨rfl, hs, hs2, hs3⟩))
            all_goals
              have hb0 : w'.drew.cell? ⟨b, k, none⟩ = some (.int .i64 (HS.seqAt 4 k : Nat)) := (Keeps.refl (fun _ => False) _).drew.cell0 hs
              have hb1 : w'.drew.cell? ⟨b, m, none⟩ = some (.int .i64 (HS.seqAt 4 m : Nat)) := (Keeps.refl (fun _ => False) _).drew.cell0 hs2
              have HRB : Hid (Calls Try.prog 23 #[.pointer (some ⟨B.h, 0, none⟩), .int .i64 (HS.seqAt 4 k : Nat), .int .i64 (1 : Int), .int .i64 (HS.seqAt 4 m : Nat)] w'.drew fun e w2 => e = .returned (.bool true) ∧ w2.cell? ⟨b, k, none⟩ = some (.int .i64 (HS.seqAt 4 k : Nat)) ∧ w2.cell? ⟨b, m, none⟩ = some (.int .i64 (HS.seqAt 4 m : Nat)) ∧ Hid (∃ H', RW w0 w2 B b cap j (4 : Int) (1 : Int) (1 : Nat) H' (k + 1))) := by
                refine (HR1.out w'.drew (hs3.out.1.keep ((Keeps.refl (fun _ => False) _).drew) (fun _ _ h => h))).mono ?_
                rintro e w2 ⟨rfl, hA, hK, -⟩
                have hw : ¬ B.wr b := fun h => HNB.out.1 (.inr h)
                exact ⟨rfl, hK.cell hb0 hw, hK.cell hb1 hw, _, hR.out.step (by omega) hkj hA ((hs3.out.2.drew).trans hK (fun _ _ h => h))⟩
              clear hs hs2 hs3 HR1 HRA hS0 hS1a hS1b HP0 HP1 HPA HFR HNB hR HHC
              go_wp2_with fail
              go_region_held3 (fun w2 => w2.cell? ⟨b, k, none⟩ = some (.int .i64 (HS.seqAt 4 k : Nat)) ∧ w2.cell? ⟨b, m, none⟩ = some (.int .i64 (HS.seqAt 4 m : Nat)))
                (first | exact ⟨hb0, hb1⟩ | assumption | (refine ⟨?_, ?_⟩ <;> assumption))
                (first | (go_at_call 23; refine HRB.out.mono ?_; rintro e w2 ⟨rfl, ht, ht2, ht3⟩))
              all_goals go_wp2
              all_goals exact ⟨⟨k + 1, by omega, by go_num, by obtain ⟨H', h'⟩ := ht3.out; exact ⟨H', h'⟩⟩, by simp only [intOf]; omega⟩
          case' inr =>
            obtain rfl : k = j := by omega
            have dk : decide (k < k) = false := decide_eq_false (by omega)
            have hc := hR.out.cell hf
            have HFR := Lib.hid hR.out.fresh
            have HNB := Lib.hid hR.out.nb
            have hWF := hR.out.seq.wf
            have hfs := seqAt4 f
            have hw : ¬ B.wr b := fun h => hR.out.nb.1 (.inr h)
            have HCW : Hid (∀ (wx : World) (x : Value), (wx.alloc (.cells #[x] 3)).cell? ⟨wx.heap.size, 0, none⟩ = some x) := fun wx x => by
              have := World.cell?_alloc_new wx #[x] 3 0
              simp
            have hsrc : ∀ (wx : World) g (x : Int), wx.cell? ⟨g, 0, none⟩ = some (.int .i64 x) → Src wx (.slice (some ⟨g, 0, none⟩) 1 1) [x] := fun wx g x hcell => .inr ⟨⟨g, 0, none⟩, 1, rfl, fun i u hi => by
              match i with
              | 0 => simp at hi; subst hi; simpa [Addr.add] using hcell
              | i + 1 => simp at hi⟩
            have HRE : Hid (∀ wx g, Keeps (fun _ => False) wr wx → wx.cell? ⟨g, 0, none⟩ = some (.int .i64 (HS.seqAt 4 f : Nat)) → Calls Try.prog 17 #[.pointer (some ⟨B.h, 0, none⟩), .slice (some ⟨g, 0, none⟩) 1 1] wx fun e w' => ∃ a1 c1, e = .returned (.slice a1 k c1) ∧ Keeps (fun _ => False) wr w' ∧ w'.cell? ⟨b, f, none⟩ = some (.int .i64 (HS.seqAt 4 f : Nat))) := by
              intro wx g hk hcell
              refine (reached_calls (HFR.out.1.keep hk (fun _ _ h => h)) hWF (hsrc _ _ _ hcell) (fun ad n c h => by cases h; rfl) (by simp) (fun y hy => by simp at hy; subst hy; exact wf_small (by omega) (by omega))).mono ?_
              rintro e w' ⟨a1, c1, l, rfl, hm⟩
              refine ⟨a1, c1, ?_, hk.trans hm.out.1.keeps (fun _ _ h => h), (hk.trans hm.out.1.keeps (fun _ _ h => h)).cell0 hc⟩
              rw [hR.out.reached h2 HQ.out hf hm.out.2.1 hm.out.2.2]
            have HCO : Hid (∀ wx g, Keeps (fun _ => False) wr wx → wx.cell? ⟨g, 0, none⟩ = some (.int .i64 (HS.seqAt 4 f : Nat)) → Calls Try.prog 18 #[.pointer (some ⟨B.h, 0, none⟩), .slice (some ⟨g, 0, none⟩) 1 1] wx fun e w' => e = .returned (.int .i64 0) ∧ w'.cell? ⟨b, f, none⟩ = some (.int .i64 (HS.seqAt 4 f : Nat)) ∧ ∃ H', Hid (HeapAt w' B H' ∧ H'.Wf ∧ H'.blocks.length = k ∧ Keeps B.wr wr w')) := by
              intro wx g hk hcell
              refine (collect_calls (HFR.out.1.keep hk (fun _ _ h => h)) hWF (hsrc _ _ _ hcell) (fun ad n c h => by cases h; rfl) (by simp) (fun y hy => by simp at hy; subst hy; exact wf_small (by omega) (by omega))).mono ?_
              rintro e w' ⟨c', rfl, H', hm⟩
              have hs := hR.out.swept h2 HQ.out hf hm.out.2.1
              obtain ⟨hs1, hs2⟩ := hs
              subst hs1
              have hK := ((Keeps.refl B.wr wr).trans hk (fun _ _ h => h.elim)).trans hm.out.2.2 (fun _ _ h => h)
              exact ⟨rfl, hK.cell hc hw, H', hm.out.1, hm.out.2.1.wf, hs2, hK⟩
            have HC2 : Hid (∀ wx g H1, HeapAt wx B H1 → H1.Wf → H1.blocks.length = k → Keeps B.wr wr wx → wx.cell? ⟨g, 0, none⟩ = some (.int .i64 ((HS.seqAt 4 f : Nat) + 1)) → Calls Try.prog 18 #[.pointer (some ⟨B.h, 0, none⟩), .slice (some ⟨g, 0, none⟩) 1 1] wx fun e w' => e = .returned (.int .i64 k) ∧ ∃ H', Hid (HeapAt w' B H' ∧ H'.Wf ∧ H'.blocks.length = 0 ∧ Keeps B.wr wr w')) := by
              intro wx g H1 hA hW hb hkw hcell
              refine (collect_calls hA hW (hsrc _ _ _ hcell) (fun ad n c h => by cases h; rfl) (by simp) (fun y hy => by simp at hy; subst hy; exact wf_small (by omega) (by omega))).mono ?_
              rintro e w' ⟨c', rfl, H', hm⟩
              obtain ⟨hs1, hs2⟩ := odd_swept hW (by omega) hm.out.2.1
              rw [hb] at hs1
              exact ⟨by rw [hs1], H', hm.out.1, hm.out.2.1.wf, hs2, hkw.trans hm.out.2.2 (fun _ _ h => h)⟩
            have HFIN : Hid (∀ wx, Keeps B.wr wr wx → Keeps (fun _ => False) w wx) := fun wx hk => HK0.out.trans (HFR.out.2.1.trans hk (fun k hk hw => by have := HFR.out.2.2 k (.inr hw); omega)) (fun _ _ h => h)
            have hlo : (0 : Int) ≤ (HS.seqAt 4 f : Nat) := by omega
            have hhi : ((HS.seqAt 4 f : Nat) : Int) < 10000 := by omega
            clear hR hWF hfs hsrc HFR HNB HK0
            generalize HS.seqAt 4 f = sf at *
            go_wp2_with fail
            refine (HRE.out _ _ ((Keeps.refl _ wr).alloc _) (HCW.out _ _)).mono ?_
            rintro e w5 ⟨a1, c1, rfl, hk5, hc5⟩
            go_wp2_with fail
            refine (HCO.out _ _ (hk5.alloc _) (HCW.out _ _)).mono ?_
            rintro e w6 ⟨rfl, hc6, H6, h6⟩
            clear hk5 hc5 hc HRE HCO
            go_wp2_with fail
            refine (HC2.out _ _ H6 (h6.out.1.keep ((Keeps.refl (fun _ => False) _).alloc _) (fun _ _ h => h)) h6.out.2.1 h6.out.2.2.1 (h6.out.2.2.2.alloc _) (HCW.out _ _)).mono ?_
            rintro e w7 ⟨rfl, H7, h7⟩
            clear hc6 h6 HC2
            have HBL := Lib.hid (blocks_calls h7.out.1 h7.out.2.1)
            rw [h7.out.2.2.1] at HBL
            go_wp2_with fail
            refine HBL.out.mono ?_
            rintro e w8 ⟨a8, c8, rfl, hm8⟩
            have HKF : Hid (Keeps (fun _ => False) w w8) := HFIN.out _ (h7.out.2.2.2.trans hm8.out.keeps (fun _ _ h => h.elim))
            clear hm8 h7 HBL
            go_wp2
            go_ret
            exact ⟨rfl, HKF.out⟩
end Rings
set_option maxRecDepth 100000 in
set_option maxHeartbeats 4000000 in
theorem sweepRings_law (n f kd : Int) (w : World) :
    Calls Try.prog 5 #[.int .i64 n, .int .i64 f, .int .i64 kd] w fun e w' => e = .returned (.bool true) ∧ Below w.heap.size w w' := by
  have HAN := fun w => Lib.hid (anchor7_calls w)
  by_cases g0 : n < 1
  · have d1 : decide (n < 1) = true := decide_eq_true g0
    go_enter Try.func5, Try.ntmps5
    go_wp2_with fail
    refine (HAN w).out.mono ?_
    rintro e w0 ⟨rfl, hk0⟩
    have HK0 := Lib.hid hk0
    clear hk0
    go_wp2
    go_ret
    exact ⟨rfl, HK0.out.below (fun _ _ h => h)⟩
  have d1 : decide (n < 1) = false := decide_eq_false g0
  by_cases g1 : 60 < n
  · have d2 : decide ((60 : Int) < n) = true := decide_eq_true g1
    go_enter Try.func5, Try.ntmps5
    go_wp2_with fail
    refine (HAN w).out.mono ?_
    rintro e w0 ⟨rfl, hk0⟩
    have HK0 := Lib.hid hk0
    clear hk0
    go_wp2
    go_ret
    exact ⟨rfl, HK0.out.below (fun _ _ h => h)⟩
  have d2 : decide ((60 : Int) < n) = false := decide_eq_false g1
  by_cases g2 : f < 0
  · have d3 : decide (f < 0) = true := decide_eq_true g2
    go_enter Try.func5, Try.ntmps5
    go_wp2_with fail
    refine (HAN w).out.mono ?_
    rintro e w0 ⟨rfl, hk0⟩
    have HK0 := Lib.hid hk0
    clear hk0
    go_wp2
    go_ret
    exact ⟨rfl, HK0.out.below (fun _ _ h => h)⟩
  have d3 : decide (f < 0) = false := decide_eq_false g2
  by_cases g3 : n ≤ f
  · have d4 : decide (n ≤ f) = true := decide_eq_true g3
    go_enter Try.func5, Try.ntmps5
    go_wp2_with fail
    refine (HAN w).out.mono ?_
    rintro e w0 ⟨rfl, hk0⟩
    have HK0 := Lib.hid hk0
    clear hk0
    go_wp2
    go_ret
    exact ⟨rfl, HK0.out.below (fun _ _ h => h)⟩
  have d4 : decide (n ≤ f) = false := decide_eq_false g3
  by_cases g4 : kd < 2
  · have d5 : decide (kd < 2) = true := decide_eq_true g4
    go_enter Try.func5, Try.ntmps5
    go_wp2_with fail
    refine (HAN w).out.mono ?_
    rintro e w0 ⟨rfl, hk0⟩
    have HK0 := Lib.hid hk0
    clear hk0
    go_wp2
    go_ret
    exact ⟨rfl, HK0.out.below (fun _ _ h => h)⟩
  have d5 : decide (kd < 2) = false := decide_eq_false g4
  by_cases g5 : 4 < kd
  · have d6 : decide ((4 : Int) < kd) = true := decide_eq_true g5
    go_enter Try.func5, Try.ntmps5
    go_wp2_with fail
    refine (HAN w).out.mono ?_
    rintro e w0 ⟨rfl, hk0⟩
    have HK0 := Lib.hid hk0
    clear hk0
    go_wp2
    go_ret
    exact ⟨rfl, HK0.out.below (fun _ _ h => h)⟩
  have d6 : decide ((4 : Int) < kd) = false := decide_eq_false g5
  obtain ⟨N, rfl⟩ := Int.eq_ofNat_of_zero_le (show 0 ≤ n by omega)
  obtain ⟨F, rfl⟩ := Int.eq_ofNat_of_zero_le (show 0 ≤ f by omega)
  obtain ⟨mk, pl, hq⟩ : ∃ mk pl, Rings.Kd kd mk pl := by
    by_cases h2 : kd = 2
    · exact ⟨0, 1, .inl ⟨h2, rfl, rfl⟩⟩
    · by_cases h3 : kd = 3
      · exact ⟨1, 2, .inr (.inl ⟨h3, rfl, rfl⟩)⟩
      · exact ⟨1, 1, .inr (.inr ⟨by omega, rfl, rfl⟩)⟩
  exact (Rings.rings_calls w N F kd mk pl hq (by omega) (by omega) (by omega)).mono fun e w' ⟨he, hk⟩ => ⟨he, hk.below (fun _ _ h => h)⟩
end Go.Proofs.Ytnflgjhgegggcaa
