/-
  The walk of text.Bytes.
-/
import Derived.Test.YtnbiofcfphpikaaText
import Derived.Laws.IdiomStrings
namespace Go.Proofs.Ytnbiofcfphpikaa
open Go.RowKit

theorem Try.underlying_bytes : Try.prog.underlying 70 = some (.slice 5) := by kernel_rfl
theorem Try.info_byte : (Try.prog.info? 5).map (fun i => (i.zero, i.size, i.bytes)) = some (some (.int .u8 0), 1, 1) := by kernel_rfl

/-- The first n bytes of s, gathered. -/
structure Byts (w wr : World) (v : Value) (s : ByteArray) (n : Nat) : Prop where
  own : Own wr 5 v n (fun i => .int .u8 (byt s i : Int))
  keeps : Keeps (fun _ => False) w wr
  fresh : ∀ g, v.ownBlock = some g → w.heap.size ≤ g
theorem Byts.start (w : World) (s : ByteArray) : Byts w w (.slice none 0 0) s 0 := ⟨Own.nil _ _ _, Keeps.refl _ _, fun g h => by simp [Value.ownBlock] at h⟩
theorem Byts.drewN {w wr : World} {v : Value} {s : ByteArray} {n : Nat} (h : Byts w wr v s n) (q : Nat) : Byts w (wr.drewN q) v s n := ⟨h.own.drewN q, h.keeps.drewN q, h.fresh⟩
theorem Byts.snoc {w wa wb : World} {v : Value} {s : ByteArray} {n g cap : Nat} {o : Obj} {u : Value} (h : Byts w wa v s n) (hu : u = .int .u8 (byt s n : Int))
    (hO : Own wb 5 (.slice (some ⟨g, 0, none⟩) (n + 1) cap) (n + 1) (setf (fun i => .int .u8 (byt s i : Int)) n u))
    (hK : Keeps (fun b => v.ownBlock = some b) (wa.alloc o) wb) (hg : v.ownBlock = some g ∨ g = (wa.alloc o).heap.size) : Byts w wb (.slice (some ⟨g, 0, none⟩) (n + 1) cap) s (n + 1) := by
  refine ⟨hO.congr fun i hi => ?_, (h.keeps.alloc o).trans hK (fun b hb hv => by have := h.fresh b hv; omega), ?_⟩
  · by_cases e : i = n
    · subst e; rw [setf_same, hu]
    · rw [setf_ne _ _ e]
  · intro g' hg'
    simp [Value.ownBlock] at hg'
    subst hg'
    rcases hg with e | e
    · exact h.fresh g e
    · have := h.keeps.size
      have : wa.heap.size ≤ g := by rw [e]; simp
      omega

section
variable {w wr : World} {R : Nat → Prop} {sp N : Nat} {M : Mp} {held : List Int} {n F : Nat}
/-- What is no block reads as the empty string. -/
theorem tBytesNone (h : SpA w wr R sp N M held n F) (x : Int) (hx : look M x = none) (hev : x.tmod 2 = 0) (ca : Option Addr) (cl cc : Nat) :
    Calls Try.prog 35 #[.pointer (some ⟨sp, 0, none⟩), .slice ca cl cc, .int .i64 x] wr fun e w' => e = .returned (.string ByteArray.empty) ∧ ∃ q, w' = wr.drewN q := by
  have H1 := sHead h x
  rw [hx] at H1
  have H1' : Hid (Calls Try.prog 27 #[.pointer (some ⟨sp, 0, none⟩), .int .i64 x] wr fun e w' => e = .returned (.tuple #[.int .i64 0, .int .i64 0, .int .i64 0]) ∧ ∃ q, w' = wr.drewN q) := H1
  have H2 := fun q => sGet (h.drewN q) x 0
  rw [mget_none hx] at H2
  have H2' := fun q => Lib.hid (H2 q)
  have b0 : (x.tmod 2 == 0) = true := by rw [hev]; rfl
  clear h H1 H2 hx hev
  go_enter Try.func35, Try.ntmps35
  go_wp2_with fail
  refine H1'.out.mono ?_
  rintro e w1 ⟨rfl, q, rfl⟩
  go_wp2_with fail
  refine (H2' q).out.mono ?_
  rintro e w2 ⟨rfl, q2, rfl⟩
  go_wp2
  go_ret
  exact ⟨rfl, q + q2, rfl⟩

set_option maxRecDepth 100000 in
set_option maxHeartbeats 4000000 in
theorem tBytes {wa : World} (h : SpA w wa R sp N M held n F) (a : Nat) {b : Blk} (hb : M a = some b) {s : ByteArray} (hT : Tx b s) (ca : Option Addr) (cl cc : Nat) :
    Calls Try.prog 35 #[.pointer (some ⟨sp, 0, none⟩), .slice ca cl cc, .int .i64 a] wa fun e w' => e = .returned (.string s) ∧ Keeps (fun _ => False) wa w' := by
  have hev := (h.isBlk hb).2.1
  have had := (h.isBlk hb).2.2.2.2
  have had0 := (h.isBlk hb).1
  obtain ⟨nw, hn⟩ : ∃ nw : Nat, nw = (s.size + 7) / 8 := ⟨_, rfl⟩
  have hss := hT.ss
  rw [← hn] at hss
  have H1 := sHead h (a : Int)
  rw [look_nat, hb] at H1
  have e1 : bk (some b) = 1 := hT.kk
  have e2 : bs (some b) = (nw : Int) + 1 := by show (b.s : Int) = _; omega
  have e3 : bm (some b) = 0 := hT.mm
  rw [e1, e2, e3] at H1
  have H1' := Lib.hid H1
  have H2 := fun q => sGet (h.drewN q) (a : Int) 0
  have g0 : mget M (a : Int) 0 = (s.size : Int) := (mget_at hb 0 rfl (by omega)).trans hT.w0
  rw [g0] at H2
  have H2' := fun q => Lib.hid (H2 q)
  have H3 : Hid (∀ k wx, 1 ≤ k → k ≤ nw → Keeps (fun _ => False) wa wx → Calls Try.prog 29 #[.pointer (some ⟨sp, 0, none⟩), .int .i64 a, .int .i64 ((k : Nat) : Int)] wx fun e w' => e = .returned (.int .i64 (wrd s (k - 1) 8)) ∧ ∃ q, w' = wx.drewN q) := by
    intro k wx h1 h2 hk
    have := sGet (h.other0 hk) (a : Int) (k : Int)
    rw [mget_at hb k rfl (by omega)] at this
    obtain ⟨j, rfl⟩ : ∃ j, k = j + 1 := ⟨k - 1, by omega⟩
    rw [hT.ww j (by omega)] at this
    exact this
  obtain ⟨i0, hi, hz0, hz1, hz2⟩ := info_parts Try.info_byte
  have hpos := hT.pos
  have hle := hT.le
  have b0 : ((a : Int) % 2 == 0) = true := by simp; omega
  have d1 : decide ((s.size : Int) < 1) = false := decide_eq_false (by omega)
  have d2 : decide ((16384 : Int) < (s.size : Int)) = false := decide_eq_false (by omega)
  have hn2 : ((s.size : Int) + 7) / 8 = (nw : Int) := by omega
  have hnb : nw ≤ 2100 := by omega
  have HN := Lib.hid hn
  clear hn hss H1 H2 e1 e2 e3 g0 h hT hb hev
  go_enter Try.func35, Try.ntmps35
  go_wp2_with fail
  refine H1'.out.mono ?_
  rintro e w1 ⟨rfl, q, rfl⟩
  go_wp2_with fail
  refine (H2' q).out.mono ?_
  rintro e w2 ⟨rfl, q2, rfl⟩
  clear H1' H2'
  go_wp2
  clear hn2
  go_loopw [12, 13] (fun v i wx => ∃ k : Nat, k ≤ nw ∧ i = .int .i64 ((k : Int) + 1) ∧ Hid (Byts wa wx v s (8 * k))) (fun _ i _ => nw + 1 - (intOf i).toNat)
  case atStart => exact ⟨0, Nat.zero_le _, rfl, (Byts.start wa s).drewN _⟩
  case round =>
    obtain ⟨k, hk, rfl, hD⟩ := hrel
    by_cases hlt : k < nw
    · have dk : decide (k < nw) = true := decide_eq_true hlt
      have H4 := H3.out (k + 1) wr (by omega) (by omega) hD.out.keeps
      rw [show ((k + 1 : Nat) : Int) = (k : Int) + 1 by omega, Nat.add_sub_cancel] at H4
      have H4' := Lib.hid H4
      have HB : Hid (∀ j, j < 8 → wrd s k 8 / 2 ^ (8 * j) % 256 = (byt s (8 * k + j) : Int)) := fun j hj => byte_of s k hj
      clear H4
      generalize wrd s k 8 = z at *
      go_wp2_with fail
      refine H4'.out.mono ?_
      rintro e w3 ⟨rfl, q3, rfl⟩
      have HD2 : Hid (Byts wa (wr.drewN q3) _ s (8 * k + 0)) := hD.out.drewN q3
      clear hD H4'
      go_wp2
      obtain ⟨wo2, rfl⟩ : ∃ wo : World, wo = wr := ⟨_, rfl⟩
      go_loopw [12, 14] (fun v i wx => ∃ j : Nat, j ≤ 8 ∧ i = .int .i64 j ∧ Hid (Byts wa wx v s (8 * k + j))) (fun _ i _ => 8 - (intOf i).toNat)
      case atStart => exact ⟨0, Nat.zero_le _, rfl, HD2⟩
      case round =>
        clear HD2
        obtain ⟨j, hj, rfl, hD⟩ := hrel
        by_cases hlt2 : j < 8
        · have dj : decide ((j : Int) < 8) = true := decide_eq_true (by omega)
          have HBJ := Lib.hid (HB.out j hlt2)
          go_wp2_with (at_builtin; refine wpList_app1 _ rfl _ _ 70 rfl 5 i0 (.int .u8 0) 1 Try.underlying_bytes hi hz0 hz1 hz2 rfl (by decide) _ (8 * k + j) _ rfl (hD.out.own.alloc _) _ 1 (.int .u8 (z / 2 ^ (8 * j) % 256)) rfl (World.cell?_alloc_new _ _ _ 0) rfl (by omega) ?_; intro g cap w4 hO3 hK3 hg3)
          have HG := Lib.hid (hD.out.snoc (by rw [HBJ.out]) hO3 hK3 hg3)
          clear hO3 hK3 hg3 hD HBJ
          go_wp2
          go_roundw
          case rel => exact ⟨j + 1, by omega, by go_num, HG⟩
          case measure => simp [intOf]; omega
        · obtain rfl : j = 8 := by omega
          have dj : decide ((8 : Int) < 8) = false := by decide
          go_wp2
          go_roundw
          case rel => exact ⟨k + 1, by omega, by go_num, hD⟩
          case measure => simp [intOf]; omega
    · obtain rfl : k = nw := by omega
      have dk : decide (k < k) = false := by simp
      obtain ⟨g, cap, rfl, hcap, hg, hcell, hfz⟩ := hD.out.own.some_shape (by have := HN.out; omega)
      have HKF := Lib.hid hD.out.keeps
      have hl8 : s.size ≤ 8 * k := by have := HN.out; omega
      have hle2 : s.size ≤ cap := by omega
      have hdl : s.data.toList.length = s.size := Array.length_toList
      have hrun := run_convert_bytes_back (P := Try.prog) wr 70 9 5 ⟨g, 0, none⟩ cap s.data.toList Try.underlying_bytes (by kernel_rfl) (by kernel_rfl) (by
        intro j hj
        have hj2 : j < s.size := by omega
        have e : (⟨g, 0, none⟩ : Addr).add j = ⟨g, j, none⟩ := by unfold Addr.add; split <;> simp_all
        rw [e, hcell j (by omega), byt_in hj2]
        rfl)
      rw [hdl] at hrun
      have hss : (⟨s.data.toList.toArray⟩ : ByteArray) = s := by simp
      rw [hss] at hrun
      clear hD hcell hg hcap hdl hss hfz
      go_wp2
      go_ret
      exact ⟨rfl, HKF.out⟩
end
end Go.Proofs.Ytnbiofcfphpikaa
