/-
  The walks of sweep.reference and sweep.Children.
-/
import Derived.Test.YtnbiofcfphpikaaV1
namespace Go.Proofs.Ytnbiofcfphpikaa
open Go.RowKit

namespace HS
/-- Is a word a block's address? -/
def isRef (H : HS) (x : Int) : Bool := decide (H.roomI x ≠ 0)
theorem isRef_pos {H : HS} (hW : H.Wf) {x : Int} (h : H.isRef x = true) : 64 ≤ x ∧ x % 2 = 0 ∧ H.room x.toNat ≠ 0 := by
  unfold isRef roomI at h
  by_cases hx : x < 0
  · rw [if_pos hx] at h; simp at h
  · rw [if_neg hx] at h
    have h' : H.room x.toNat ≠ 0 := of_decide_eq_true h
    have := hW.inside h'
    omega
/-- The first word of a block; 0 where there is none. -/
def head (H : HS) (x : Int) : Int := if H.roomI x = 0 then 0 else H.words x.toNat
/-- A block's references. -/
def kidsTo (H : HS) (a : Nat) (kind mask : Int) : Nat → List Int
  | 0 => []
  | k + 1 => kidsTo H a kind mask k ++ (if mayRef kind mask k = true ∧ H.isRef (H.words (a + 1 + k)) = true then [H.words (a + 1 + k)] else [])
def kids (H : HS) (a : Nat) : List Int :=
  if isHdr (H.words a) = true then H.kidsTo a (hk (H.words a)) (hm (H.words a)) (min (hs (H.words a)).toNat (H.room a - 1)) else []
theorem kidsTo_length (H : HS) (a : Nat) (kind mask : Int) : ∀ k, (H.kidsTo a kind mask k).length ≤ k
  | 0 => by simp [kidsTo]
  | k + 1 => by
    simp only [kidsTo, List.length_append]
    have := kidsTo_length H a kind mask k
    split <;> simp <;> omega
end HS

set_option maxHeartbeats 1000000 in
theorem reference_calls {w : World} {B : HB} {H : HS} (hA : HeapAt w B H) (hW : H.Wf) (x : Int) :
    Calls Try.prog 85 #[.pointer (some ⟨B.h, 0, none⟩), .int .i64 x] w fun e w' => e = .returned (.bool (H.isRef x)) ∧ ∃ q, w' = w.drewN q := by
  have HR := Lib.hid (room_calls hA hW x)
  have hin : Hid (H.isRef x = true → 64 ≤ x ∧ x % 2 = 0 ∧ H.room x.toNat ≠ 0) := HS.isRef_pos hW
  have hdef : Hid (H.isRef x = decide (H.roomI x ≠ 0)) := rfl
  generalize H.isRef x = t at *
  clear hA hW
  by_cases h1 : 0 < x
  · have d1 : decide ((0 : Int) < x) = true := decide_eq_true h1
    by_cases h2 : x % 2 = 0
    · have b2 : (x % 2 == 0) = true := beq_iff_eq.2 h2
      generalize hr : H.roomI x = r at *
      have hfin : Hid (decide (0 < r) = t) := by
        show _ = _
        rw [hdef.out]
        by_cases e : r = 0
        · subst e; simp
        · have : 0 < r := by omega
          simp [this, e]
      clear hr h2
      go_enter Try.func85, Try.ntmps85
      go_wp2_with fail
      refine HR.out.mono ?_
      rintro e w' ⟨rfl, q, rfl⟩
      go_wp2
      go_ret
      exact ⟨by rw [← hfin.out]; rfl, q, rfl⟩
    · have b2 : (x % 2 == 0) = false := beq_eq_false_iff_ne.2 h2
      have ht : t = false := by
        cases t with
        | false => rfl
        | true => exact absurd (hin.out rfl).2.1 h2
      subst ht
      clear h2
      go_enter Try.func85, Try.ntmps85
      go_wp2
      go_ret
      exact ⟨rfl, 0, rfl⟩
  · have d1 : decide ((0 : Int) < x) = false := decide_eq_false h1
    have ht : t = false := by
      cases t with
      | false => rfl
      | true => have := (hin.out rfl).1; omega
    subst ht
    go_enter Try.func85, Try.ntmps85
    go_wp2
    go_ret
    exact ⟨rfl, 0, rfl⟩

theorem retPair_out {v : Int} {t : Bool} {e : Ending} (h : RetPair v t e) : e = .returned (.tuple #[.int .i64 v, .bool t]) := h

theorem Gather.heap {w wr : World} {B : HB} {H : HS} {v : Value} {l : List Int} (h : Gather w wr v l) (hA : HeapAt w B H) : HeapAt wr B H := hA.keep h.keeps (fun _ _ h => h)

set_option maxRecDepth 100000 in
set_option maxHeartbeats 4000000 in
theorem kids_loop {w : World} {B : HB} {H : HS} (hA : HeapAt w B H) (hW : H.Wf) (a : Nat) (hr : H.room a ≠ 0) (hh : isHdr (H.words a) = true) :
    Calls Try.prog 86 #[.pointer (some ⟨B.h, 0, none⟩), .int .i64 a] w fun e w' => ∃ v, e = .returned v ∧ Hid (Gather w w' v (H.kids a)) := by
  have hok := (isHdr_ok hh).1
  unfold hdrOk at hok
  obtain ⟨-, -, k3, k4, k5, k6⟩ := hok
  have hin := hW.inside hr
  have HLD := Lib.hid (load_yes hA hW (a : Nat) 0 (by omega) (by rw [HS.roomI_cast]; omega))
  have HOP := Lib.hid (fun w => open_yes w (H.words a) hh)
  have HK : Hid (H.kids a = H.kidsTo a (hk (H.words a)) (hm (H.words a)) (min (hs (H.words a)).toNat (H.room a - 1))) := by
    show _ = _
    unfold HS.kids; rw [if_pos hh]
  have HR := Lib.hid (fun q => room_calls (hA.drewN q) hW (a : Nat))
  have hw0 : ((a : Nat) : Int) + 0 = ((a : Nat) : Int) := by omega
  rw [hw0, Int.toNat_natCast] at HLD
  rw [HS.roomI_cast] at HR
  have HLK : Hid (∀ (k : Nat) (wr : World), HeapAt wr B H → k + 1 < H.room a → Calls Try.prog 61 #[.pointer (some ⟨B.h, 0, none⟩), .int .i64 (a : Nat), .int .i64 ((k : Int) + 1)] wr fun e w' => RetPair (H.words (a + 1 + k)) true e ∧ ∃ q, w' = wr.drewN q) := by
    intro k wr h hk
    have h1 := load_yes h hW (a : Nat) ((k : Int) + 1) (by omega) (by rw [HS.roomI_cast]; omega)
    have e : ((a : Int) + ((k : Int) + 1)).toNat = a + 1 + k := by omega
    rw [e] at h1
    exact h1
  have HIN := Lib.hid hin
  have hr2 := hin.2.2.1
  have hr3 := hin.2.2.2.2
  have hE : Hid (∀ k : Nat, (k : Int) < hs (H.words a) → k < H.room a - 1 → ((a : Nat) : Int) ≤ 1048576 ∧ k + 1 < H.room a) := by
    intro k h1 h2
    have := hin.2.1; have := hW.nb
    exact ⟨by omega, by omega⟩
  have HA := Lib.hid hA
  have HW := Lib.hid hW
  obtain ⟨i0, hi, hz0, hz1, hz2⟩ := info_parts Try.info_int
  generalize hkk : hk (H.words a) = kind at *
  generalize hss : hs (H.words a) = size at *
  generalize hmm : hm (H.words a) = mask at *
  generalize hrr : H.room a = r at *
  clear hkk hss hmm hA hW hh hw0 hin
  have HRR := Lib.hid hrr
  clear hrr hr
  obtain ⟨S, rfl⟩ := Int.eq_ofNat_of_zero_le k3
  obtain ⟨n, hn⟩ : ∃ n, n = min S (r - 1) := ⟨_, rfl⟩
  rw [Int.toNat_natCast, ← hn] at HK
  have hn1 : n ≤ S := by omega
  have hn2 : n ≤ r - 1 := by omega
  have hmx : max (0 : Int) ((r : Int) - 1) = (r : Int) - 1 := by omega
  have hmn : min (S : Int) ((r : Int) - 1) = (n : Int) := by omega
  have HMN : Hid (((S : Int) ≤ (r : Int) - 1 → S = n) ∧ ((r : Int) - 1 < (S : Int) → (r : Int) - 1 = (n : Int))) := ⟨fun h => by omega, fun h => by omega⟩
  clear hn
  go_enter Try.func86, Try.ntmps86
  go_wp2_with fail
  refine HLD.out.mono ?_
  rintro e w1 ⟨h1, q1, rfl⟩
  have h1' := retPair_out h1
  clear h1
  subst h1'
  go_wp2_with fail
  refine (HOP.out _).mono ?_
  rintro e w2 ⟨rfl, rfl⟩
  go_wp2_with fail
  refine (HR.out _).mono ?_
  rintro e w3 ⟨rfl, q3, rfl⟩
  go_wp2
  clear hmx hmn
  case' inr => have hbd := Lib.hid (HMN.out.1 h); clear h; have hex : Hid (∀ k : Nat, ¬ k < n → decide (k < S) = false) := fun k hk => decide_eq_false (by have := hbd.out; omega)
  case' inl => have hbd := Lib.hid (HMN.out.2 h); clear h; have hex : Hid (∀ k : Nat, ¬ k < n → decide ((k : Int) < (r : Int) - 1) = false) := fun k hk => decide_eq_false (by have := hbd.out; omega)
  all_goals
    go_loopw [11, 35] (fun v i wr => ∃ k : Nat, k ≤ n ∧ i = .int .i64 k ∧ Hid (Gather w wr v (H.kidsTo a kind mask k))) (fun _ i _ => n - (intOf i).toNat)
    case atStart => exact ⟨0, Nat.zero_le _, rfl, ((Gather.start w).drewN _)⟩
    case round =>
      obtain ⟨k, hk, rfl, hG⟩ := hrel
      by_cases hlt : k < n
      · have dS : decide (k < S) = true := decide_eq_true (by omega)
        have dR : decide ((k : Int) < (r : Int) - 1) = true := decide_eq_true (by omega)
        have hE' := hE.out k (by omega) (by omega)
        have HL := Lib.hid (HLK.out k wr (hG.out.heap HA.out) hE'.2)
        have HMC := Lib.hid (fun w => may_calls w kind mask k k5 (by omega))
        have HRC := Lib.hid (fun q => reference_calls ((hG.out.heap HA.out).drewN q) HW.out (H.words (a + 1 + k)))
        have HS1 : Hid (H.kidsTo a kind mask (k + 1) = H.kidsTo a kind mask k ++ (if mayRef kind mask k = true ∧ H.isRef (H.words (a + 1 + k)) = true then [H.words (a + 1 + k)] else [])) := rfl
        have hlen := HS.kidsTo_length H a kind mask k
        generalize H.kidsTo a kind mask k = l at *
        generalize mayRef kind mask k = tm at *
        generalize H.isRef (H.words (a + 1 + k)) = tr at *
        generalize H.words (a + 1 + k) = x at *
        cases tm with
        | false =>
          rw [if_neg (by simp), List.append_nil] at HS1
          go_wp2_with fail
          refine HL.out.mono ?_
          rintro e w1 ⟨h1, q1, rfl⟩
          have h1' := retPair_out h1
          clear h1
          subst h1'
          go_wp2_with fail
          refine (HMC.out _).mono ?_
          rintro e w2 ⟨rfl, rfl⟩
          go_wp2
          go_roundw
          case rel => exact ⟨k + 1, by omega, by go_num, by rw [HS1.out]; exact hG.out.drewN _⟩
          case measure => simp [intOf]; omega
        | true =>
          go_wp2_with fail
          refine HL.out.mono ?_
          rintro e w1 ⟨h1, q1, rfl⟩
          have h1' := retPair_out h1
          clear h1
          subst h1'
          go_wp2_with fail
          refine (HMC.out _).mono ?_
          rintro e w2 ⟨rfl, rfl⟩
          go_wp2_with fail
          refine (HRC.out _).mono ?_
          rintro e w3 ⟨rfl, q3, rfl⟩
          cases tr with
          | false =>
            rw [if_neg (by simp), List.append_nil] at HS1
            go_wp2
            go_roundw
            case rel => exact ⟨k + 1, by omega, by go_num, by rw [HS1.out]; exact hG.out.drewN _⟩
            case measure => simp [intOf]; omega
          | true =>
            rw [if_pos (by simp)] at HS1
            go_wp2_with (at_builtin; refine wpList_app1 _ rfl _ _ 22 rfl 3 i0 (.int .i64 0) 8 Try.underlying_ints hi hz0 hz1 hz2 rfl (by decide) _ l.length _ rfl ((hG.out.ints.drewN _).alloc _) _ 1 (.int .i64 x) rfl (cell_newD _ _ _ _) rfl (by omega) ?_; intro g cap w4 hO3 hK3 hg3)
            have HG := Lib.hid ((hG.out.drewN _).snoc hO3 hK3 hg3)
            clear hO3 hK3 hg3 hG
            go_wp2
            go_roundw
            case rel => exact ⟨k + 1, by omega, by go_num, by rw [HS1.out]; exact HG⟩
            case measure => simp [intOf]; omega
      · have hd := hex.out k hlt
        obtain rfl : k = n := by omega
        go_wp2
        go_ret
        exact ⟨_, rfl, by rw [HK.out]; exact hG⟩
end Go.Proofs.Ytnbiofcfphpikaa
