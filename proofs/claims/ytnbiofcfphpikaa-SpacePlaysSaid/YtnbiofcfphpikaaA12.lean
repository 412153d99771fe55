/-
  The document's example of the space.
-/
import Derived.Test.YtnbiofcfphpikaaV9
import Derived.Test.YtnbiofcfphpikaaFront
namespace Go.Proofs.Ytnbiofcfphpikaa
open Go.RowKit

def HS.st (H : HS) (x : Int) : HS := match H.alloc x with
  | some (_, H') => H'
  | none => H
theorem HS.alloc_known {H : HS} {x : Int} {a : Nat} (h : (H.alloc x).map Prod.fst = some a) : H.alloc x = some (a, H.st x) := by
  unfold HS.st
  cases h2 : H.alloc x with
  | none => rw [h2] at h; cases h
  | some r =>
    obtain ⟨b, H'⟩ := r
    rw [h2] at h
    simp at h
    simp [h]
theorem HS.headed_room (H : HS) (a b : Nat) (k s m : Int) : (H.headed a k s m).room b = H.room b := rfl
theorem HS.headed_blocks (H : HS) (a : Nat) (k s m : Int) : (H.headed a k s m).blocks = H.blocks := by
  have : ∀ j, (H.headed a k s m).blocksTo j = H.blocksTo j := by
    intro j
    induction j with
    | zero => rfl
    | succ j ih => show _ ++ _ = _ ++ _; rw [ih]; rfl
  exact this _
theorem HS.Live.none {H : HS} {x : Int} : ¬ H.Live [] x := by
  intro h
  induction h with
  | root h _ => cases h
  | step _ _ ih => exact ih

namespace A12
def K : Nat → HS
  | 0 => HS.new 128
  | i + 1 => ((K i).st 8).headed (64 + 8 * i) 1 7 0
theorem fits : ∀ i, i < 8 → ((K i).alloc 8).map Prod.fst = some (64 + 8 * i) := by decide +kernel
theorem full : ((K 8).alloc 8).isNone = true := by decide +kernel
end A12

set_option maxRecDepth 100000 in
set_option maxHeartbeats 1000000 in
theorem anchor_calls (w : World) : Calls Try.prog 20 #[] w fun e w' => e = .returned (.bool true) ∧ Keeps (fun _ => False) w w' := by
  have HN := Lib.hid (space_new w 128 (by omega) (by omega))
  go_enter Try.func20, Try.ntmps20
  go_wp2_with fail
  refine HN.out.mono ?_
  rintro e w1 ⟨B, sp, rfl, h1⟩
  go_wp2
  go_loopw [2] (fun i wr => ∃ j : Nat, j ≤ 8 ∧ i = .int .i64 j ∧ Hid (SpaceAt w wr B sp (.slice none 0 0) (A12.K j) [] 0)) (fun i _ => 8 - (intOf i).toNat)
  case atStart => exact ⟨0, Nat.zero_le _, rfl, h1⟩
  case round =>
    clear h1
    obtain ⟨j, hj, rfl, hS⟩ := hrel
    by_cases hlt : j < 8
    · have HM := Lib.hid (make_yes hS.out 1 7 0 (by unfold hdrOk; omega) (HS.alloc_known (A12.fits j hlt)))
      have dl : decide ((j : Int) < 8) = true := decide_eq_true (by omega)
      go_wp2_with fail
      refine HM.out.mono ?_
      rintro e w2 ⟨rfl, h2⟩
      have HX : Hid (SpaceAt w w2 B sp (.slice none 0 0) (A12.K (j + 1)) [] 0) := h2.out.1
      clear h2
      go_wp2
      go_roundw
      case rel => exact ⟨j + 1, by omega, by go_num, HX⟩
      case measure => simp [intOf]; omega
    · obtain rfl : j = 8 := by omega
      have hno : (A12.K 8).alloc (7 + 1) = none := by
        have := A12.full
        cases h : (A12.K 8).alloc 8 with
        | none => rfl
        | some r => rw [h] at this; cases this
      have HM := Lib.hid (make_gc hS.out 1 7 0 (by unfold hdrOk; omega) hno (by simp) (by omega))
      go_wp2_with fail
      refine HM.out.mono ?_
      rintro e w2 ⟨H1, c, hsw, hc⟩
      have hz : ∀ a, H1.room a = 0 := fun a => hsw.out.gone a HS.Live.none
      have hf : HS.Front H1 1 := fun a ha => absurd (hz a) ha
      obtain ⟨a, H', ha, hadd, -⟩ := hsw.out.wf.alloc_front hf (Nat.le_refl _) (x := 7 + 1) (by omega) (by omega) (by rw [hsw.out.n]; decide)
      rcases hc with ⟨hn, -⟩ | ⟨a', H2, ha2, rfl, h2⟩
      · rw [hn] at ha; cases ha
      · rw [ha] at ha2
        cases ha2
        have hcount : (H'.headed a 1 7 0).blocks.length = 1 := by
          rw [HS.headed_blocks]
          refine hadd.wf.count (l := [a]) (by simp) fun b => ?_
          rw [List.mem_singleton]
          by_cases e : b = a
          · subst e; rw [hadd.is]; exact ⟨fun _ => hadd.pos, fun _ => rfl⟩
          · rw [hadd.other b e, hz b]; exact ⟨fun h => absurd h e, fun h => absurd rfl h⟩
        have HT := told_calls h2.out.1
        rw [hcount] at HT
        have HT' := Lib.hid HT
        clear hcount HT hadd ha hz hf hsw hno
        go_wp2_with fail
        refine HT'.out.mono ?_
        rintro e w3 ⟨rfl, h3⟩
        go_wp2
        go_ret
        exact ⟨rfl, h3.out.1.keeps⟩
end Go.Proofs.Ytnbiofcfphpikaa
