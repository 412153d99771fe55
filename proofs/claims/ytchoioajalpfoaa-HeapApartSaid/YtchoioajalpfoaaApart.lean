/-
  HeapApart: the walk.
-/
import Derived.Test.YtchoioajalpfoaaApartP
import Derived.Test.YtchoioajalpfoaaW8
import Derived.Deep.DeepCutAuto
import Derived.Deep.RegionLaw
namespace Go.Proofs.Ytchoioajalpfoaa
open Go.RowKit
namespace ApartLaw

set_option maxRecDepth 100000 in
set_option maxHeartbeats 8000000 in
theorem main (w : World) (x : Nat) (hx1 : 128 ≤ x) (hx2 : x ≤ 8192) (a1 : Option Addr) (len cap : Nat) (hlen : len ≤ 300) (zs : Nat → Int) (hA1 : Arg w a1 len (fun i => .int .i64 (zs i)))
    (a2 : Option Addr) (flen fcap : Nat) (fs : Nat → Bool) (hA2 : Arg w a2 flen (fun i => .bool (fs i))) :
    Calls Try.prog 5 #[.int .i64 x, .slice a1 len cap, .slice a2 flen fcap] w fun e w' => e = .returned (.bool true) ∧ Keeps (fun _ => False) w w' := by
  have HAN := Lib.hid (anchor_calls w)
  have HNW := fun w => Lib.hid (new_calls w x hx1 (by omega))
  have HN0 : Hid (HS.Listed (HS.new x) (x / 64) 0 id) := HS.new_listed hx1 (new_wf hx1 (by omega))
  have HX : Hid (64 * (x / 64) ≤ x) := by show _ ≤ _; omega
  have d1 : decide ((x : Int) < 128) = false := decide_eq_false (by omega)
  have d2 : decide ((8192 : Int) < (x : Int)) = false := decide_eq_false (by omega)
  have d3 : decide ((300 : Int) < (len : Int)) = false := decide_eq_false (by omega)
  have HA1 := Lib.hid hA1
  have HA2 := Lib.hid hA2
  clear hA1 hA2
  obtain ⟨i0, hi, hz0, hz1, hz2⟩ := info_parts Try.info_int
  generalize hN : x / 64 = N at *
  clear hN
  go_enter Try.func5, Try.ntmps5
  go_wp2_with fail
  refine HAN.out.mono ?_
  rintro e w0 ⟨rfl, hk0⟩
  have HK0 := Lib.hid hk0
  clear hk0
  go_wp2_with fail
  refine (HNW w0).out.mono ?_
  rintro e w1 ⟨B, rfl, hf⟩
  go_wp2
  go_loopw [8, 9, 44] (fun va vr i wr => ∃ k : Nat, k ≤ len ∧ i = .int .i64 k ∧ ∃ m L H, m ≤ k ∧ Hid (Ap w0 wr B N m L va vr H)) (fun _ _ i _ => len - (intOf i).toNat)
  case atStart => exact ⟨0, Nat.zero_le _, rfl, 0, id, HS.new x, Nat.le_refl _, HN0.out, hf.out, Own.nil _ _ _, Own.nil _ _ _, fun g hg => by simp [Value.ownBlock] at hg, fun g hg => by simp [Value.ownBlock] at hg, fun g hg => by simp [Value.ownBlock] at hg, .inl ⟨rfl, rfl, rfl⟩, fun i hi => by omega⟩
  case round =>
    clear hf
    obtain ⟨k, hk, rfl, m, L, H, hm, hP⟩ := hrel
    by_cases hlt : k < len
    · have dk : decide (k < len) = true := decide_eq_true hlt
      obtain ⟨b, o, rfl, hzc⟩ := ((HA1.out.keep HK0.out).keep hP.out.fresh.2.1).get hlt
      generalize zs k = zk at *
      cases hal : H.alloc zk with
      | none =>
        have HAL := Lib.hid (alloc_no hP.out.fresh.1 hP.out.listed.wf hal)
        have HP := hP
        clear hal hP
        go_wp2_with fail
        refine HAL.out.mono ?_
        rintro e w2 ⟨rfl, q, rfl⟩
        go_wp2
        go_roundw
        case rel => exact ⟨k + 1, by omega, by go_num, m, L, H, by omega, HP.out.drewN q⟩
        case measure => simp [intOf]; omega
      | some p =>
        obtain ⟨a, H'⟩ := p
        have HAL := Lib.hid (alloc_yes hP.out.fresh.1 hP.out.listed.wf hal)
        have hadd := hP.out.listed.wf.alloc_adds hal
        have HAD := Lib.hid hadd.2.2
        have hin := hadd.2.2.wf.inside (a := a) (by rw [hadd.2.2.is]; exact hadd.2.2.pos)
        have hge := @HS.roomOf_ge zk.toNat
        rw [← hadd.2.2.is] at hge
        have hz1' := hadd.1
        have hnN : H'.n = N := hadd.2.2.n.trans hP.out.listed.hn
        rw [hnN] at hin
        have HP := hP
        have hx64 := HX.out
        obtain ⟨r, hr⟩ : ∃ r, H'.room a = r := ⟨_, rfl⟩
        rw [hr] at hin hge
        obtain ⟨i1, i2, i3, i4, i5⟩ := hin
        have c1 : decide ((r : Int) < zk) = false := decide_eq_false (by omega)
        have c2 : ((a : Int).tmod 2) = 0 := by rw [Int.tmod_eq_emod_of_nonneg (by omega)]; omega
        have c2' : ((a : Int) % 2) = 0 := by omega
        have c3 : decide ((a : Int) < 64) = false := decide_eq_false (by omega)
        have c4 : decide ((x : Int) < (a : Int) + (r : Int)) = false := decide_eq_false (by omega)
        have HR := Lib.hid hr
        clear hal hP hadd hr hge hnN
        go_wp2_with fail
        refine HAL.out.mono ?_
        rintro e w2 ⟨rfl, hA2, hK2, -⟩
        have hQ := HP.out.made HAD.out hA2 hK2
        have HRM := Lib.hid (room_calls hA2 HAD.out.wf (a : Nat))
        have HQ := Lib.hid hQ
        have hroomI : H'.roomI (a : Int) = r := by rw [HS.roomI_nat, HR.out]
        rw [hroomI] at HRM
        clear hA2 hK2 hQ hroomI HAL
        go_wp2_with fail
        refine HRM.out.mono ?_
        rintro e w3 ⟨rfl, q3, rfl⟩
        have HQ3 := Lib.hid (HQ.out.drewN q3)
        have hboth := HP.out.both
        clear HQ HRM HP
        generalize w2.drewN q3 = w4 at *
        obtain ⟨va, hva⟩ : ∃ va, va = u8 := ⟨_, rfl⟩
        obtain ⟨vr, hvr⟩ : ∃ vr, vr = u9 := ⟨_, rfl⟩
        have HQ4 : Hid (Aq w0 w4 B N m L va vr H' a 0) := by rw [hva, hvr]; exact HQ3
        have HVA : Hid (va = u8) := hva
        have HVR : Hid (vr = u9) := hvr
        clear HQ3 hva hvr
        have HCELL : Hid (∀ t, t < m → (∀ g c, u8 = .slice (some ⟨g, 0, none⟩) m c → w4.cell? ⟨g, t, none⟩ = some (.int .i64 (L t : Nat))) ∧ (∀ g c, u9 = .slice (some ⟨g, 0, none⟩) m c → w4.cell? ⟨g, t, none⟩ = some (.int .i64 (H'.room (L t) : Nat)))) := by
          intro t ht
          refine ⟨fun g c e => ?_, fun g c e => ?_⟩
          · have := HQ4.out.own; rw [HVA.out, e] at this; exact this.cell ht
          · have := HQ4.out.ownr; rw [HVR.out, e] at this; exact this.cell ht
        have HAPART : Hid (∀ t, t < m → (L t + H'.room (L t) ≤ a ∨ a + r ≤ L t) ∧ L t + H'.room (L t) ≤ 64 * N) := by
          intro t ht
          have hl := HQ4.out.listed
          have hne : L t ≠ a := by
            intro e
            have := hl.inj t m (by omega) (by omega) (by rw [setf_ne _ _ (by omega), setf_same]; exact e)
            omega
          have h1 : H'.room (L t) ≠ 0 := (hl.rooms (L t)).2 ⟨t, by omega, by rw [setf_ne _ _ (by omega)]⟩
          have := hl.wf.apart h1 (by rw [HR.out]; omega) hne
          rw [HR.out] at this
          have h2 := (hl.wf.inside h1).2.1
          rw [hl.hn] at h2
          exact ⟨this, h2⟩
        rcases hboth with ⟨hm0, rfl, rfl⟩ | ⟨g1, k1, g2, k2, rfl, rfl, hmk1, hmk2⟩
        case' inl => have HM0 := Lib.hid hm0; clear hm0
        all_goals
          go_wp2
          go_loopw [83] (fun i wr => ∃ t : Nat, t ≤ m ∧ i = .int .i64 t ∧ wr = w4) (fun i _ => m - (intOf i).toNat)
          case atStart => exact ⟨0, Nat.zero_le _, rfl, rfl⟩
          case round =>
            obtain ⟨t, ht, rfl, rfl⟩ := hrel
            by_cases htm : t < m
            · first
              | (exfalso; have := HM0.out; omega)
              | (have dt : decide (t < m) = true := decide_eq_true htm
                 have q1 := (HCELL.out t htm).1 _ _ rfl
                 have q2 := (HCELL.out t htm).2 _ _ rfl
                 have hap := (HAPART.out t htm).1
                 have hbd := (HAPART.out t htm).2
                 generalize H'.room (L t) = R at *
                 generalize L t = lt at *
                 rcases hap with hap | hap
                 · have e1 : decide ((a : Int) < (lt : Int) + (R : Int)) = false := decide_eq_false (by omega)
                   have e1n : decide (a < lt + R) = false := decide_eq_false (by omega)
                   go_wp2
                   go_roundw
                   case rel => exact ⟨t + 1, by omega, by go_num, by first | rfl | trivial⟩
                   case measure => simp [intOf]; omega
                 · have e1 : decide ((lt : Int) < (a : Int) + (r : Int)) = false := decide_eq_false (by omega)
                   have e1n : decide (lt < a + r) = false := decide_eq_false (by omega)
                   by_cases h2 : (a : Int) < (lt : Int) + (R : Int)
                   · have e2 : decide ((a : Int) < (lt : Int) + (R : Int)) = true := decide_eq_true h2
                     have e2n : decide (a < lt + R) = true := decide_eq_true (by omega)
                     go_wp2
                     go_roundw
                     case rel => exact ⟨t + 1, by omega, by go_num, by first | rfl | trivial⟩
                     case measure => simp [intOf]; omega
                   · have e2 : decide ((a : Int) < (lt : Int) + (R : Int)) = false := decide_eq_false h2
                     have e2n : decide (a < lt + R) = false := decide_eq_false (by omega)
                     go_wp2
                     go_roundw
                     case rel => exact ⟨t + 1, by omega, by go_num, by first | rfl | trivial⟩
                     case measure => simp [intOf]; omega)
            · obtain rfl : m = t := by omega
              have dt : decide (m < m) = false := by simp
              have dt0 : decide ((m : Int) < 0) = false := by simp
              clear HCELL HAPART
              go_wp2
              clear c1 c2 c2' c3 c4
              go_loopw [17] (fun i wr => ∃ t : Nat, i = .int .i64 t ∧ t ≤ r ∧ ∃ W, Hid (Aq w0 wr B N m L va vr { H' with words := W } a t)) (fun i _ => r - (intOf i).toNat)
              case atStart => exact ⟨0, rfl, Nat.zero_le _, H'.words, HQ4⟩
              case round =>
                clear HQ4
                obtain ⟨t, rfl, ht, W, hQ⟩ := hrel
                have hroom : ({ H' with words := W } : HS).room a = r := HR.out
                have hroomI : ({ H' with words := W } : HS).roomI (a : Int) = r := by rw [HS.roomI_nat]; exact hroom
                by_cases htr : t < r
                · have dtr : decide (t < r) = true := decide_eq_true htr
                  have HLD : Hid (Calls Try.prog 15 #[.pointer (some ⟨B.h, 0, none⟩), .int .i64 (a : Nat), .int .i64 (t : Nat)] wr fun e w' => RetPair 0 true e ∧ ∃ q, w' = wr.drewN q) := by
                    have h1 := load_yes hQ.out.fresh.1 hQ.out.listed.wf (a : Int) (t : Int) (by omega) (by rw [hroomI]; omega)
                    have e : ((a : Int) + (t : Int)).toNat = a + t := by omega
                    rw [e, hQ.out.zero t (Nat.le_refl _) (by rw [hroom]; exact htr)] at h1
                    exact h1
                  have HST : Hid (∀ q, Calls Try.prog 16 #[.pointer (some ⟨B.h, 0, none⟩), .int .i64 (a : Nat), .int .i64 (t : Nat), .int .i64 (a : Nat)] (wr.drewN q) fun e w' => e = .returned (.bool true) ∧ Hid (Aq w0 w' B N m L va vr { H' with words := setf W (a + t) (a : Int) } a (t + 1))) := by
                    intro q
                    have h0 := hQ.out.drewN q
                    have h1 := store_yes h0.fresh.1 h0.listed.wf (a : Int) (t : Int) (a : Int) (by omega) (by rw [hroomI]; omega)
                    have e : ((a : Int) + (t : Int)).toNat = a + t := by omega
                    rw [e] at h1
                    refine h1.mono ?_
                    rintro e w' ⟨he, hA, hK, -⟩
                    exact ⟨he, h0.store (by rw [hroom]; exact htr) hA hK⟩
                  clear hQ hroom hroomI
                  go_wp2_with fail
                  refine HLD.out.mono ?_
                  rintro e w5 ⟨h1, q5, rfl⟩
                  have h1' : e = .returned (.tuple #[.int .i64 0, .bool true]) := h1
                  clear h1
                  subst h1'
                  go_wp2_with fail
                  refine (HST.out _).mono ?_
                  rintro e w6 ⟨rfl, h6⟩
                  go_wp2
                  go_roundw
                  case rel => exact ⟨t + 1, by go_num, by omega, _, h6⟩
                  case measure => simp [intOf]; omega
                · obtain rfl : r = t := by omega
                  have dtr : decide (r < r) = false := by simp
                  by_cases hfr : k < flen ∧ fs k = true
                  · obtain ⟨b2, o2, rfl, hfc⟩ := ((HA2.out.keep HK0.out).keep hQ.out.fresh.2.1).get hfr.1
                    simp only [hfr.2] at hfc
                    have dfl : decide (k < flen) = true := decide_eq_true hfr.1
                    have hne : ({ H' with words := W } : HS).room a ≠ 0 := by rw [hroom]; omega
                    have HF1 := Lib.hid (free_calls hQ.out.fresh.1 hQ.out.listed.wf (a : Int) (by rw [hroomI]; omega))
                    have hT := hQ.out.listed.wf.free_takes hne
                    have HG : Hid (∀ w7, HeapAt w7 B (({ H' with words := W } : HS).freeAt (a : Int).toNat) → Keeps B.wr wr w7 → Ap w0 w7 B N m L va vr (({ H' with words := W } : HS).freeAt a)) := fun w7 h1 h2 => hQ.out.gone (by simpa using h1) h2
                    have hri : (({ H' with words := W } : HS).freeAt a).roomI (a : Int) = 0 := by rw [HS.roomI_nat]; exact hT.is
                    have HF2 : Hid (∀ w7 q, HeapAt w7 B (({ H' with words := W } : HS).freeAt a) → Calls Try.prog 11 #[.pointer (some ⟨B.h, 0, none⟩), .int .i64 (a : Nat)] (w7.drewN q) fun e w' => e = .returned (.bool false) ∧ ∃ q', w' = (w7.drewN q).drewN q') := fun w7 q h => free_no (h.keep ((Keeps.refl (fun _ => False) w7).drewN q) (fun _ _ h => h)) hT.wf (a : Int) hri
                    have HF3 : Hid (∀ w7 q, HeapAt w7 B (({ H' with words := W } : HS).freeAt a) → Calls Try.prog 12 #[.pointer (some ⟨B.h, 0, none⟩), .int .i64 (a : Nat)] (w7.drewN q) fun e w' => e = .returned (.int .i64 0) ∧ ∃ q', w' = (w7.drewN q).drewN q') := by
                      intro w7 q h
                      have := room_calls (h.keep ((Keeps.refl (fun _ => False) w7).drewN q) (fun _ _ h => h)) hT.wf (a : Int)
                      rw [hri] at this
                      exact this
                    clear hQ hroom hroomI hne hT hri
                    go_wp2_with fail
                    refine HF1.out.mono ?_
                    rintro e w7 ⟨rfl, hA7, hK7, -⟩
                    have HA7 : Hid (HeapAt w7 B (({ H' with words := W } : HS).freeAt a)) := by show HeapAt _ _ _; simpa using hA7
                    have HG7 := Lib.hid (HG.out w7 hA7 hK7)
                    clear hA7 hK7 HG
                    go_wp2_with fail
                    refine (HF2.out w7 0 HA7.out).mono ?_
                    rintro e w8 ⟨rfl, q8, rfl⟩
                    go_wp2_with fail
                    refine (HF3.out w7 q8 HA7.out).mono ?_
                    rintro e w9 ⟨rfl, q9, rfl⟩
                    have HN9 := Lib.hid (HG7.out.drewN (q8 + q9))
                    rw [HVA.out, HVR.out] at HN9
                    go_wp2
                    go_roundw
                    case rel => exact ⟨k + 1, by omega, by go_num, m, L, _, by omega, HN9⟩
                    case measure => simp [intOf]; omega
                  · obtain rfl := HVA.out
                    obtain rfl := HVR.out
                    by_cases hk2 : k < flen
                    · have hfs : fs k = false := by
                        cases hq : fs k with
                        | false => rfl
                        | true => exact absurd ⟨hk2, hq⟩ hfr
                      obtain ⟨b2, o2, rfl, hfc⟩ := ((HA2.out.keep HK0.out).keep hQ.out.fresh.2.1).get hk2
                      simp only [hfs] at hfc
                      have dfl : decide (k < flen) = true := decide_eq_true hk2
                      have HQF := Lib.hid hQ.out
                      have HRM := Lib.hid hroom
                      have HOV := Lib.hid hQ.out.own
                      have HOR := Lib.hid hQ.out.ownr
                      have HAP := Lib.hid hQ.out.apart
                      clear hQ hroom hroomI
                      go_wp2_with (at_builtin; first | (refine wpList_app1 _ rfl _ _ 22 rfl 3 i0 (.int .i64 0) 8 Try.underlying_ints hi hz0 hz1 hz2 rfl (by decide) _ m _ rfl (HOV.out.alloc _) _ 1 (.int .i64 (a : Nat)) rfl (World.cell?_alloc_new _ _ _ 0) rfl (by omega) ?_; intro gA cA wa hO1 hK1 hg1; have HO1 := Lib.hid hO1; have HK1 := Lib.hid hK1; have HG1 := Lib.hid hg1; have HO2 := Lib.hid ((HOR.out.alloc _).keep hK1 (fun b hb hv => HAP.out b hv hb)); clear hO1 hK1 hg1) | (refine wpList_app1 _ rfl _ _ 22 rfl 3 i0 (.int .i64 0) 8 Try.underlying_ints hi hz0 hz1 hz2 rfl (by decide) _ m _ rfl (HO2.out.alloc _) _ 1 (.int .i64 (r : Nat)) rfl (World.cell?_alloc_new _ _ _ 0) rfl (by omega) ?_; intro gR cR wb hO2 hK2 hg2))
                      have HN := Lib.hid (HQF.out.push HRM.out.symm HO1.out HK1.out HG1.out (by rw [HRM.out]; exact hO2) hK2 hg2)
                      clear hO2 hK2 hg2 HQF HO1 HK1 HG1 HO2 HOV HOR HAP
                      go_wp2
                      go_roundw
                      case rel => exact ⟨k + 1, by omega, by go_num, m + 1, _, _, by omega, HN⟩
                      case measure => simp [intOf]; omega
                    · have dfl : decide (k < flen) = false := decide_eq_false hk2
                      have HQF := Lib.hid hQ.out
                      have HRM := Lib.hid hroom
                      have HOV := Lib.hid hQ.out.own
                      have HOR := Lib.hid hQ.out.ownr
                      have HAP := Lib.hid hQ.out.apart
                      clear hQ hroom hroomI
                      go_wp2_with (at_builtin; first | (refine wpList_app1 _ rfl _ _ 22 rfl 3 i0 (.int .i64 0) 8 Try.underlying_ints hi hz0 hz1 hz2 rfl (by decide) _ m _ rfl (HOV.out.alloc _) _ 1 (.int .i64 (a : Nat)) rfl (World.cell?_alloc_new _ _ _ 0) rfl (by omega) ?_; intro gA cA wa hO1 hK1 hg1; have HO1 := Lib.hid hO1; have HK1 := Lib.hid hK1; have HG1 := Lib.hid hg1; have HO2 := Lib.hid ((HOR.out.alloc _).keep hK1 (fun b hb hv => HAP.out b hv hb)); clear hO1 hK1 hg1) | (refine wpList_app1 _ rfl _ _ 22 rfl 3 i0 (.int .i64 0) 8 Try.underlying_ints hi hz0 hz1 hz2 rfl (by decide) _ m _ rfl (HO2.out.alloc _) _ 1 (.int .i64 (r : Nat)) rfl (World.cell?_alloc_new _ _ _ 0) rfl (by omega) ?_; intro gR cR wb hO2 hK2 hg2))
                      have HN := Lib.hid (HQF.out.push HRM.out.symm HO1.out HK1.out HG1.out (by rw [HRM.out]; exact hO2) hK2 hg2)
                      clear hO2 hK2 hg2 HQF HO1 HK1 HG1 HO2 HOV HOR HAP
                      go_wp2
                      go_roundw
                      case rel => exact ⟨k + 1, by omega, by go_num, m + 1, _, _, by omega, HN⟩
                      case measure => simp [intOf]; omega
    · obtain rfl : k = len := by omega
      have dk : decide (k < k) = false := by simp
      have hcnt : H.blocks.length = m := by
        have := hP.out.listed.wf.count (l := (List.range m).map L) (by
          rw [List.nodup_iff_pairwise_ne, List.pairwise_map]
          refine List.Pairwise.imp_of_mem ?_ (List.nodup_range (n := m))
          intro i j hi hj hne e
          rw [List.mem_range] at hi hj
          exact hne (hP.out.listed.inj i j hi hj e)) (fun a => by
          rw [hP.out.listed.rooms a, List.mem_map]
          constructor
          · rintro ⟨j, hj, rfl⟩; exact ⟨j, List.mem_range.1 hj, rfl⟩
          · rintro ⟨j, hj, rfl⟩; exact ⟨j, List.mem_range.2 hj, rfl⟩)
        simpa using this
      have HKF : Hid (Keeps (fun _ => False) w wr) := HK0.out.trans hP.out.fresh.2.1 (fun _ _ h => h)
      have hboth := hP.out.both
      have HFW : Hid (∀ wx, Keeps (fun _ => False) wr wx → HeapAt wx B H) := fun wx hk => hP.out.fresh.1.keep hk (fun _ _ h => h)
      have HWF : Hid H.Wf := hP.out.listed.wf
      have HIN : Hid (∀ t, t < m → 64 ≤ L t ∧ L t ≤ 1048576 ∧ H.room (L t) ≤ 1048576) := by
        intro t ht
        have h1 : H.room (L t) ≠ 0 := (hP.out.listed.rooms (L t)).2 ⟨t, ht, rfl⟩
        have h2 := HWF.out.inside h1
        have h3 := HWF.out.nb
        exact ⟨h2.1, by omega, h2.2.2.2.2⟩
      have HFUL := Lib.hid hP.out.full
      have HCELL : Hid (∀ t, t < m → (∀ g c, u8 = .slice (some ⟨g, 0, none⟩) m c → wr.cell? ⟨g, t, none⟩ = some (.int .i64 (L t : Nat))) ∧ (∀ g c, u9 = .slice (some ⟨g, 0, none⟩) m c → wr.cell? ⟨g, t, none⟩ = some (.int .i64 (H.room (L t) : Nat)))) := by
        intro t ht
        refine ⟨fun g c e => ?_, fun g c e => ?_⟩
        · have := hP.out.own; rw [e] at this; exact this.cell ht
        · have := hP.out.ownr; rw [e] at this; exact this.cell ht
      have HKR : Hid (Keeps (fun _ => False) wr wr) := Keeps.refl _ _
      have HCNT := Lib.hid hcnt
      clear hP hcnt
      obtain ⟨wo, rfl⟩ : ∃ wo : World, wo = wr := ⟨_, rfl⟩
      rcases hboth with ⟨hm0, rfl, rfl⟩ | ⟨g1, k1, g2, k2, rfl, rfl, hmk1, hmk2⟩
      case' inl => have HM0 := Lib.hid hm0; clear hm0
      all_goals
        go_wp2
        go_loopw [166] (fun i wx => ∃ t : Nat, t ≤ m ∧ i = .int .i64 t ∧ Hid (Keeps (fun _ => False) wo wx)) (fun i _ => m - (intOf i).toNat)
        case atStart => exact ⟨0, Nat.zero_le _, rfl, HKR⟩
        case round =>
          obtain ⟨t, ht, rfl, hk⟩ := hrel
          by_cases htm : t < m
          · first
            | (exfalso; have := HM0.out; omega)
            | (have dt : decide (t < m) = true := decide_eq_true htm
               have q1 := hk.out.cell0 ((HCELL.out t htm).1 _ _ rfl)
               have q2 := hk.out.cell0 ((HCELL.out t htm).2 _ _ rfl)
               have Q2 := Lib.hid ((HCELL.out t htm).2 _ _ rfl)
               have hin := HIN.out t htm
               have HLD : Hid (∀ u, u < H.room (L t) → ∀ wx, Keeps (fun _ => False) wo wx → Calls Try.prog 15 #[.pointer (some ⟨B.h, 0, none⟩), .int .i64 (L t : Nat), .int .i64 (u : Nat)] wx fun e w' => RetPair (L t : Nat) true e ∧ ∃ q, w' = wx.drewN q) := by
                 intro u hu wx hkx
                 have h1 := load_yes (HFW.out wx hkx) HWF.out ((L t : Nat) : Int) (u : Int) (by omega) (by rw [HS.roomI_nat]; omega)
                 have e : (((L t : Nat) : Int) + (u : Int)).toNat = L t + u := by omega
                 rw [e, HFUL.out t htm u hu] at h1
                 exact h1
               generalize H.room (L t) = R at *
               generalize L t = lt at *
               obtain ⟨i1, i2, i3⟩ := hin
               go_wp2
               go_loopw [22] (fun j wx => ∃ u : Nat, u ≤ R ∧ j = .int .i64 u ∧ Hid (Keeps (fun _ => False) wo wx)) (fun j _ => R - (intOf j).toNat)
               case atStart => exact ⟨0, Nat.zero_le _, rfl, hk⟩
               case round =>
                 clear hk q1 q2
                 obtain ⟨u, hu, rfl, hk⟩ := hrel
                 have q2 := hk.out.cell0 Q2.out
                 by_cases huR : u < R
                 · have du : decide (u < R) = true := decide_eq_true huR
                   have HL2 := Lib.hid (HLD.out u huR wr hk.out)
                   go_wp2_with fail
                   refine HL2.out.mono ?_
                   rintro e w5 ⟨h1, hw5⟩
                   have h1' : e = .returned (.tuple #[.int .i64 (lt : Nat), .bool true]) := h1
                   clear h1
                   subst h1'
                   have HK5 : Hid (Keeps (fun _ => False) wo w5) := by
                     obtain ⟨q5, rfl⟩ := hw5
                     exact hk.out.drewN q5
                   clear hw5
                   have hbq : (((lt : Nat) : Int) == (lt : Int)) = true := beq_iff_eq.2 rfl
                   go_wp2
                   go_roundw
                   case rel => exact ⟨u + 1, by omega, by go_num, HK5⟩
                   case measure => simp [intOf]; omega
                 · obtain rfl : R = u := by omega
                   have du : decide (R < R) = false := by simp
                   go_wp2
                   go_roundw
                   case rel => exact ⟨t + 1, by omega, by go_num, hk⟩
                   case measure => simp [intOf]; omega)
          · obtain rfl : m = t := by omega
            have dt : decide (m < m) = false := by simp
            have dt0 : decide ((m : Int) < 0) = false := by simp
            have HBL := blocks_calls (HFW.out wr hk.out) HWF.out
            first | rw [HCNT.out, HM0.out] at HBL | rw [HCNT.out] at HBL
            have HBL := Lib.hid HBL
            go_wp2_with fail
            refine HBL.out.mono ?_
            rintro e w8 ⟨ab, cb, rfl, hm⟩
            have HM8 : Hid (Keeps (fun _ => False) w w8) := (HKF.out.trans hk.out (fun _ _ h => h)).trans hm.out.keeps (fun _ _ h => h)
            clear hm
            go_wp2
            go_ret
            exact ⟨rfl, HM8.out⟩
end ApartLaw
end Go.Proofs.Ytchoioajalpfoaa
