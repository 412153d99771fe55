/-
  derricklaw06: the walks of nth and step.
-/
import Derived.Test.YtchoioajalpfoaaDuo
import Derived.StillTailTactics
import Derived.Deep.RegionHeld3
namespace Go.Proofs.Ytchoioajalpfoaa
open Go.RowKit

set_option maxRecDepth 100000 in
set_option maxHeartbeats 4000000 in
theorem nth6_calls {w : World} {rb : Nat} {lv : Value} {L : List RB} {H : HS} (h : RefAt w rb lv L H) (hW : H.Wf) (x : Int) :
    Calls Try.prog 26 #[.pointer (some ⟨rb, 0, none⟩), .int .i64 x] w fun e w' => (e = .returned (.int .i64 (-1)) ∨ ∃ j : Nat, j < L.length ∧ e = .returned (.int .i64 j)) ∧ w' = w := by
  have hlen := h.len_le hW
  obtain ⟨al, cl, rfl, hcl⟩ := h.slice
  have c1 := h.c1
  clear h hW
  generalize L.length = n at *
  by_cases h0 : n = 0 ∨ x < 0
  · rcases h0 with h0 | h0
    · have hz : ((n : Int) == 0) = true := beq_iff_eq.2 (by omega)
      subst h0
      go_enter Try.func26, Try.ntmps26
      go_wp2
      go_ret
      exact ⟨.inl rfl, rfl⟩
    · have dx : decide (x < 0) = true := decide_eq_true h0
      by_cases hn : n = 0
      · subst hn
        go_enter Try.func26, Try.ntmps26
        go_wp2
        go_ret
        exact ⟨.inl rfl, rfl⟩
      · have hz : ((n : Int) == 0) = false := beq_eq_false_iff_ne.2 (by omega)
        go_enter Try.func26, Try.ntmps26
        go_wp2
        go_ret
        exact ⟨.inl rfl, rfl⟩
  · have dx : decide (x < 0) = false := decide_eq_false (by omega)
    have hz : ((n : Int) == 0) = false := beq_eq_false_iff_ne.2 (by omega)
    have hm0 := Int.emod_nonneg x (show (n : Int) ≠ 0 by omega)
    have hm1 := Int.emod_lt_of_pos x (show (0 : Int) < (n : Int) by omega)
    obtain ⟨j, hj⟩ : ∃ j : Nat, (j : Int) = x % (n : Int) := ⟨(x % (n : Int)).toNat, by omega⟩
    have e1 : x % (n : Int) = (j : Int) := hj.symm
    have e2 : x.tmod (n : Int) = (j : Int) := by rw [Int.tmod_eq_emod_of_nonneg (by omega)]; exact e1
    have hjn : j < n := by omega
    clear hj hm0 hm1
    go_enter Try.func26, Try.ntmps26
    go_wp2
    go_ret
    exact ⟨.inr ⟨j, hjn, rfl⟩, rfl⟩

section
variable {w0 w : World} {B : HB} {rb : Nat} {H : HS}
set_option maxRecDepth 100000 in
set_option maxHeartbeats 4000000 in
theorem step6_1 (h : Play w0 w B rb H) (n k v : Int) :
    Calls Try.prog 18 #[.pointer (some ⟨B.h, 0, none⟩), .pointer (some ⟨rb, 0, none⟩), .agg #[.int .i64 1, .int .i64 n, .int .i64 k, .int .i64 v]] w fun e w' => e = .returned (.bool true) ∧ ∃ H', Hid (Play w0 w' B rb H') := by
  have HD := Lib.hid (h.box 43 1 n k v)
  have HW := Lib.hid h.wf
  cases e : H.alloc n with
  | none =>
    have H1 := Lib.hid (HD.out.halloc_none HW.out e)
    have H2 : Hid (∀ w2, Hid (Duo w0 w2 B rb H H w.heap.size 1 n k v) → _) := fun w2 h2 => h2.out.ralloc_none HW.out e
    clear h e
    go_enter Try.func18, Try.ntmps18
    go_wp2_with fail
    refine H1.out.mono ?_
    rintro e w2 ⟨rfl, h2⟩
    have b1 := h2.out.b1
    go_wp2_with fail
    refine (H2.out w2 h2).mono ?_
    rintro e w3 ⟨rfl, h3⟩
    go_wp2
    go_ret
    exact ⟨rfl, H, h3.out.play HW.out⟩
  | some p =>
    obtain ⟨a, H'⟩ := p
    have H1 := Lib.hid (HD.out.halloc_some HW.out e)
    have H2 : Hid (∀ w2, Hid (Duo w0 w2 B rb H' H w.heap.size 1 n k v) → _) := fun w2 h2 => h2.out.ralloc_some HW.out e
    have HW' := Lib.hid (HW.out.alloc_adds e).2.2.wf
    clear h e
    go_enter Try.func18, Try.ntmps18
    go_wp2_with fail
    refine H1.out.mono ?_
    rintro e w2 ⟨rfl, h2⟩
    have b1 := h2.out.b1
    go_wp2_with fail
    refine (H2.out w2 h2).mono ?_
    rintro e w3 ⟨rfl, h3⟩
    go_wp2
    go_ret
    exact ⟨rfl, H', h3.out.play HW'.out⟩
set_option maxRecDepth 100000 in
set_option maxHeartbeats 4000000 in
theorem step6_2 (h : Play w0 w B rb H) (n k v : Int) :
    Calls Try.prog 18 #[.pointer (some ⟨B.h, 0, none⟩), .pointer (some ⟨rb, 0, none⟩), .agg #[.int .i64 2, .int .i64 n, .int .i64 k, .int .i64 v]] w fun e w' => e = .returned (.bool true) ∧ ∃ H', Hid (Play w0 w' B rb H') := by
  have HD := Lib.hid (h.box 43 2 n k v)
  have HW := Lib.hid h.wf
  obtain ⟨lv, L, h1, -, -⟩ := HD.out.open HW.out
  have hlen := h1.len_le HW.out
  obtain ⟨al, cl, rfl, hcl⟩ := h1.slice
  have c1 := h1.c1
  have HN := Lib.hid (nth6_calls h1 HW.out n)
  have HAT : Hid (∀ j, j < L.length → ∃ y b, y ≤ 1048576 ∧ H.roomI (y : Nat) ≠ 0 ∧ al = some ⟨b, 0, none⟩ ∧ (w.alloc (.cells #[.int .i64 2, .int .i64 n, .int .i64 k, .int .i64 v] 43)).cell? ⟨b, j * 3, none⟩ = some (.int .i64 (y : Nat))) := by
    intro j hj
    obtain ⟨b, e0, -, e1, -⟩ := h1.at_ hj
    have h2 := HW.out.inside (h1.room_ne HW.out hj)
    have := HW.out.nb
    exact ⟨ra L j, b, by omega, by rw [HS.roomI_nat]; exact h1.room_ne HW.out hj, e0, e1⟩
  clear h h1
  generalize hn : L.length = m at *
  clear hn
  go_enter Try.func18, Try.ntmps18
  go_wp2_with fail
  refine HN.out.mono ?_
  rintro e w2 ⟨rfl | ⟨j, hj, rfl⟩, rfl⟩
  · go_wp2
    go_ret
    exact ⟨rfl, H, HD.out.play HW.out⟩
  · obtain ⟨y, b, hy, hr, rfl, e1⟩ := HAT.out j hj
    have H1 := Lib.hid (HD.out.hfree_some HW.out hr)
    have H2 : Hid (∀ w2, Hid (Duo w0 w2 B rb (H.freeAt (y : Int).toNat) H w.heap.size 2 n k v) → _) := fun w2 h2 => h2.out.rfree_some HW.out hr
    have HW' : Hid (H.freeAt (y : Int).toNat).Wf := by
      rw [HS.roomI_nat] at hr
      show HS.Wf _
      rw [Int.toNat_natCast]
      exact (HW.out.free_takes hr).wf
    clear hr HAT HN
    go_wp2_with fail
    refine H1.out.mono ?_
    rintro e w2 ⟨rfl, h2⟩
    go_wp2_with fail
    refine (H2.out w2 h2).mono ?_
    rintro e w3 ⟨rfl, h3⟩
    go_wp2
    go_ret
    exact ⟨rfl, _, h3.out.play HW'.out⟩
end
end Go.Proofs.Ytchoioajalpfoaa
