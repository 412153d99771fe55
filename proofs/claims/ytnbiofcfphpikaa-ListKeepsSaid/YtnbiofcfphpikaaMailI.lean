/-
  The walk of mail.Items; the document's example of the channels.
-/
import Derived.Test.YtnbiofcfphpikaaMail
namespace Go.Proofs.Ytnbiofcfphpikaa
open Go.RowKit

section
variable {w wr : World} {R : Nat → Prop} {sp N : Nat} {M : Mp} {held : List Int} {n F : Nat}
set_option maxRecDepth 100000 in
set_option maxHeartbeats 4000000 in
theorem mItems0 (h : SpA w wr R sp N M held n F) (x : Int) (hc : mget M x 2 = 0) :
    Calls Try.prog 42 #[.pointer (some ⟨sp, 0, none⟩), .int .i64 x] wr fun e w' => e = .returned (.slice none 0 0) ∧ ∃ q, w' = wr.drewN q := by
  have H2 := mCount h x
  rw [hc] at H2
  have H2' := Lib.hid H2
  clear h H2 hc
  generalize mget M x 3 = g3 at *
  go_enter Try.func42, Try.ntmps42
  go_wp2_with fail
  refine H2'.out.mono ?_
  rintro e w1 ⟨rfl, q, rfl⟩
  go_wp2
  go_loopw [7, 16] (fun v i wr' => v = .slice none 0 0 ∧ i = .int .i64 0 ∧ wr' = wr.drewN q) (fun _ _ _ => 0)
  case atStart => exact ⟨rfl, rfl, rfl⟩
  case round =>
    obtain ⟨rfl, rfl, rfl⟩ := hrel
    go_wp2
    go_ret
    exact ⟨rfl, q, rfl⟩

set_option maxRecDepth 100000 in
set_option maxHeartbeats 4000000 in
theorem mItems (h : SpA w wr R sp N M held n F) {c P : Nat} {k m : Int} {b : Nat} {l : List Int} {cl : Int} (hc : Chan M c P k m b l cl) :
    Calls Try.prog 42 #[.pointer (some ⟨sp, 0, none⟩), .int .i64 c] wr fun e w' => ∃ v, e = .returned v ∧ Hid (Gather wr w' v l) := by
  have hg := hc.get
  have H2 := mCount h (c : Int)
  rw [hg.2.2.1, hg.2.2.2] at H2
  have H2' := Lib.hid H2
  obtain ⟨B, hB, hBk, hBm, hC⟩ := id hc
  have hsz := (h.isBlk hB).2.2.2.1
  have hs := hC.s
  have hll := hC.len
  have HAT : Hid (∀ i wx, i < l.length → Keeps (fun _ => False) wr wx → Calls Try.prog 68 #[.pointer (some ⟨sp, 0, none⟩), .int .i64 c, .int .i64 i] wx fun e w' => e = .returned (.int .i64 ((4 + (b + i) % P : Nat) : Int)) ∧ ∃ q, w' = wx.drewN q) :=
    fun i wx hi hk => mAt (h.other0 hk) hc i (by omega)
  have HGT : Hid (∀ i wx, i < l.length → Keeps (fun _ => False) wr wx → Calls Try.prog 29 #[.pointer (some ⟨sp, 0, none⟩), .int .i64 c, .int .i64 ((4 + (b + i) % P : Nat) : Int)] wx fun e w' => e = .returned (.int .i64 (l.getD i 0)) ∧ ∃ q, w' = wx.drewN q) := by
    intro i wx hi hk
    have := sGet (h.other0 hk) (c : Int) ((4 + (b + i) % P : Nat) : Int)
    have e : mget M (c : Int) ((4 + (b + i) % P : Nat) : Int) = l.getD i 0 := by
      have := hc.item hi
      push_cast at this ⊢
      exact this
    rwa [e] at this
  have HLW : Hid (∀ i, i < l.length → l.take (i + 1) = l.take i ++ [l.getD i 0]) := fun i hi => take_next hi
  have HLT : Hid (∀ i, i ≤ l.length → (l.take i).length = i) := fun i hi => by rw [List.length_take]; omega
  have hlen : l.length < 20000 := by omega
  obtain ⟨i0, hi, hz0, hz1, hz2⟩ := info_parts Try.info_int
  have HALL : Hid (l.take l.length = l) := List.take_length
  clear h hc hg H2 hC hB hs hsz hll hBk hBm B
  obtain ⟨L, hL⟩ : ∃ L, l.length = L := ⟨_, rfl⟩
  rw [hL] at HALL HLT HLW HGT HAT H2' hlen
  clear hL
  go_enter Try.func42, Try.ntmps42
  go_wp2_with fail
  refine H2'.out.mono ?_
  rintro e w1 ⟨rfl, q, rfl⟩
  go_wp2
  go_loopw [7, 16] (fun v i wx => ∃ k : Nat, k ≤ L ∧ i = .int .i64 k ∧ Hid (Gather wr wx v (l.take k))) (fun _ i _ => L - (intOf i).toNat)
  case atStart => exact ⟨0, Nat.zero_le _, rfl, ((Gather.start wr).drewN _)⟩
  case round =>
    obtain ⟨k, hk, rfl, hG⟩ := hrel
    by_cases hlt : k < L
    · have dl : decide (k < L) = true := decide_eq_true hlt
      have H1 := Lib.hid (HAT.out k _ hlt hG.out.keeps)
      have H3 := fun q => Lib.hid (HGT.out k _ hlt (hG.out.keeps.drewN q))
      have HN := Lib.hid (HLW.out k hlt)
      have hln : (l.take k).length = k := HLT.out k hk
      generalize l.getD k 0 = x at *
      generalize l.take k = lk at *
      generalize 4 + (b + k) % P = pl at *
      subst hln
      go_wp2_with fail
      refine H1.out.mono ?_
      rintro e w1 ⟨rfl, q1, rfl⟩
      go_wp2_with fail
      refine (H3 q1).out.mono ?_
      rintro e w2 ⟨rfl, q2, rfl⟩
      go_wp2_with (at_builtin; refine wpList_app1 _ rfl _ _ 22 rfl 3 i0 (.int .i64 0) 8 Try.underlying_ints hi hz0 hz1 hz2 rfl (by decide) _ lk.length _ rfl ((hG.out.ints.drewN _).alloc _) _ 1 (.int .i64 x) rfl (cell_newD _ _ _ _) rfl (by omega) ?_; intro g cap w4 hO3 hK3 hg3)
      have HG := Lib.hid ((hG.out.drewN _).snoc hO3 hK3 hg3)
      clear hO3 hK3 hg3 hG
      go_wp2
      go_roundw
      case rel => exact ⟨lk.length + 1, by omega, by go_num, by rw [HN.out]; exact HG⟩
      case measure => simp [intOf]; omega
    · obtain rfl : k = L := by omega
      have dl : decide (k < k) = false := by simp
      go_wp2
      go_ret
      exact ⟨_, rfl, by rw [HALL.out] at hG; exact hG⟩
end
end Go.Proofs.Ytnbiofcfphpikaa
