/-
  The walks of sweep.Header and sweep.Open.
-/
import Derived.Test.YtnbiofcfphpikaaProg
import Derived.Test.YtnbiofcfphpikaaHdr
import Derived.Test.YtnbiofcfphpikaaW8
namespace Go.Proofs.Ytnbiofcfphpikaa
open Go.RowKit

set_option maxHeartbeats 1000000 in
theorem header_yes (w : World) (k s m : Int) (h : hdrOk k s m) :
    Calls Try.prog 54 #[.int .i64 k, .int .i64 s, .int .i64 m] w fun e w' => e = .returned (.int .i64 (hdr k s m)) ∧ w = w' := by
  have h' := h
  unfold hdrOk at h'
  obtain ⟨a1, a2, a3, a4, a5, a6⟩ := h'
  have e1 : bits .or .i64 (m * 131072) s = m * 131072 + s := bits_or_add 17 (by omega) (by omega) (by omega) (by omega) a3 (by omega)
  have e2 : bits .or .i64 ((m * 131072 + s) * 8) k = (m * 131072 + s) * 8 + k := bits_or_add 3 (by omega) (by omega) (by omega) (by omega) (by omega) (by omega)
  have e3 : bits .or .i64 (((m * 131072 + s) * 8 + k) * 256) 90 = ((m * 131072 + s) * 8 + k) * 256 + 90 := bits_or_add 8 (by omega) (by omega) (by omega) (by omega) (by omega) (by omega)
  have hfin : Hid (((m * 131072 + s) * 8 + k) * 256 + 90 = hdr k s m) := by show _ = _; unfold hdr; rw [if_pos h]; omega
  clear h
  go_enter Try.func54, Try.ntmps54
  go_wp2
  go_ret
  exact ⟨ret_i64 hfin.out, rfl⟩
set_option maxHeartbeats 1000000 in
theorem header_no (w : World) (k s m : Int) (h : ¬ hdrOk k s m) :
    Calls Try.prog 54 #[.int .i64 k, .int .i64 s, .int .i64 m] w fun e w' => e = .returned (.int .i64 0) ∧ w = w' := by
  unfold hdrOk at h
  by_cases h0 : k < 1
  · have d0 : decide (k < 1) = true := decide_eq_true h0
    clear h
    go_enter Try.func54, Try.ntmps54
    go_wp2
    go_ret
    exact ⟨rfl, rfl⟩
  have d0 : decide (k < 1) = false := decide_eq_false h0
  by_cases h1 : (4 : Int) < k
  · have d1 : decide ((4 : Int) < k) = true := decide_eq_true h1
    clear h
    go_enter Try.func54, Try.ntmps54
    go_wp2
    go_ret
    exact ⟨rfl, rfl⟩
  have d1 : decide ((4 : Int) < k) = false := decide_eq_false h1
  by_cases h2 : s < 0
  · have d2 : decide (s < 0) = true := decide_eq_true h2
    clear h
    go_enter Try.func54, Try.ntmps54
    go_wp2
    go_ret
    exact ⟨rfl, rfl⟩
  have d2 : decide (s < 0) = false := decide_eq_false h2
  by_cases h3 : (16448 : Int) ≤ s
  · have d3 : decide ((16448 : Int) ≤ s) = true := decide_eq_true h3
    clear h
    go_enter Try.func54, Try.ntmps54
    go_wp2
    go_ret
    exact ⟨rfl, rfl⟩
  have d3 : decide ((16448 : Int) ≤ s) = false := decide_eq_false h3
  by_cases h4 : m < 0
  · have d4 : decide (m < 0) = true := decide_eq_true h4
    clear h
    go_enter Try.func54, Try.ntmps54
    go_wp2
    go_ret
    exact ⟨rfl, rfl⟩
  have d4 : decide (m < 0) = false := decide_eq_false h4
  by_cases h5 : (65536 : Int) ≤ m
  · have d5 : decide ((65536 : Int) ≤ m) = true := decide_eq_true h5
    clear h
    go_enter Try.func54, Try.ntmps54
    go_wp2
    go_ret
    exact ⟨rfl, rfl⟩
  have d5 : decide ((65536 : Int) ≤ m) = false := decide_eq_false h5
  exact absurd ⟨by omega, by omega, by omega, by omega, by omega, by omega⟩ h

theorem header_calls (w : World) (k s m : Int) :
    Calls Try.prog 54 #[.int .i64 k, .int .i64 s, .int .i64 m] w fun e w' => e = .returned (.int .i64 (hdr k s m)) ∧ w = w' := by
  by_cases h : hdrOk k s m
  · exact header_yes w k s m h
  · rw [hdr_no h]; exact header_no w k s m h

theorem results_tmp4 {fn : Func} {t u v x : Tmp} (h : fn.results = #[.tmp t, .tmp u, .tmp v, .tmp x]) (tmps : Array Value) (P : Program) (w : World) :
    (results fn tmps).run P w = .ok (.tuple #[tmps.getD t undef, tmps.getD u undef, tmps.getD v undef, tmps.getD x undef]) w := by
  simp [results, h]

set_option maxHeartbeats 1000000 in
theorem open_yes (w : World) (h : Int) (hh : isHdr h = true) :
    Calls Try.prog 62 #[.int .i64 h] w fun e w' => e = .returned (.tuple #[.int .i64 (hk h), .int .i64 (hs h), .int .i64 (hm h), .bool true]) ∧ w = w' := by
  have e1 : bits .and .i64 (h / 256) 7 = hk h := bits_and_mask 3 (by omega)
  have e2 : bits .and .i64 (h / 2048) 131071 = hs h := bits_and_mask 17 (by omega)
  have e3 : h / 268435456 = hm h := rfl
  have hok := isHdr_ok hh
  have hne : h ≠ 0 := by
    unfold isHdr at hh
    simp only [Bool.and_eq_true, decide_eq_true_eq] at hh
    exact hh.1
  have hb : (h == 0) = false := beq_eq_false_iff_ne.2 hne
  have HH := Lib.hid (header_calls w (hk h) (hs h) (hm h))
  rw [hok.2] at HH
  clear hok hne hh
  generalize hk h = k at *
  generalize hs h = s at *
  generalize hm h = m at *
  go_enter Try.func62, Try.ntmps62
  go_wp2_with fail
  refine HH.out.mono ?_
  rintro e w' ⟨rfl, rfl⟩
  go_wp2
  ((try simp only [Exit.inBlock, Exit.then]); refine bodyPost_ret (results_tmp4 rfl _ _ _) rfl ?_)
  exact ⟨rfl, rfl⟩

set_option maxHeartbeats 1000000 in
theorem open_no (w : World) (h : Int) (hh : isHdr h = false) :
    Calls Try.prog 62 #[.int .i64 h] w fun e w' => e = .returned (.tuple #[.int .i64 0, .int .i64 0, .int .i64 0, .bool false]) ∧ w = w' := by
  have e1 : bits .and .i64 (h / 256) 7 = hk h := bits_and_mask 3 (by omega)
  have e2 : bits .and .i64 (h / 2048) 131071 = hs h := bits_and_mask 17 (by omega)
  have e3 : h / 268435456 = hm h := rfl
  by_cases hz : h = 0
  · have hb : (h == 0) = true := beq_iff_eq.2 hz
    clear hz hh
    generalize hk h = k at *
    generalize hs h = s at *
    generalize hm h = m at *
    go_enter Try.func62, Try.ntmps62
    go_wp2
    ((try simp only [Exit.inBlock, Exit.then]); refine bodyPost_ret (results_tmp4 rfl _ _ _) rfl ?_)
    exact ⟨rfl, rfl⟩
  · have hb : (h == 0) = false := beq_eq_false_iff_ne.2 hz
    have hne : hdr (hk h) (hs h) (hm h) ≠ h := by
      unfold isHdr at hh
      simpa [hz] using hh
    have hb2 : (hdr (hk h) (hs h) (hm h) != h) = true := bne_iff_ne.2 hne
    have HH := Lib.hid (header_calls w (hk h) (hs h) (hm h))
    clear hz hh hne
    generalize hk h = k at *
    generalize hs h = s at *
    generalize hm h = m at *
    generalize hdr k s m = H at *
    go_enter Try.func62, Try.ntmps62
    go_wp2_with fail
    refine HH.out.mono ?_
    rintro e w' ⟨rfl, rfl⟩
    go_wp2
    ((try simp only [Exit.inBlock, Exit.then]); refine bodyPost_ret (results_tmp4 rfl _ _ _) rfl ?_)
    exact ⟨rfl, rfl⟩

/-- May the word k behind a header be a reference? -/
def mayRef (kind mask : Int) (k : Nat) : Bool :=
  if kind = 2 then true else if kind = 3 then decide (mask ≤ (k : Int)) else if kind = 4 then decide (k < 16) && decide (mask / 2 ^ k % 2 = 1) else false

theorem may_calls (w : World) (kind mask : Int) (k : Nat) (_hm : 0 ≤ mask) (hk : k ≤ 20000) :
    Calls Try.prog 91 #[.int .i64 kind, .int .i64 mask, .int .i64 k] w fun e w' => e = .returned (.bool (mayRef kind mask k)) ∧ w = w' := by
  unfold mayRef
  by_cases h2 : kind = 2
  · subst h2
    rw [if_pos rfl]
    go_enter Try.func91, Try.ntmps91
    go_wp2
    go_ret
    exact ⟨rfl, rfl⟩
  · rw [if_neg h2]
    by_cases h3 : kind = 3
    · subst h3
      rw [if_pos rfl]
      go_enter Try.func91, Try.ntmps91
      go_wp2
      go_ret
      exact ⟨rfl, rfl⟩
    · rw [if_neg h3]
      by_cases h4 : kind = 4
      · subst h4
        rw [if_pos rfl]
        by_cases h16 : k < 16
        · have hd : decide ((k : Int) < 16) = true := decide_eq_true (by omega)
          have hk64 : (k : Int) < 64 := by omega
          have e : ∀ x : Int, bits .and .i64 x 1 = x % 2 := fun x => bits_and_mask 1 (by omega)
          have hd2 : decide (k < 16) = true := decide_eq_true h16
          rw [hd2]
          go_enter Try.func91, Try.ntmps91
          go_wp2
          go_ret
          exact ⟨by show Ending.returned (.bool (mask / 2 ^ k % 2 == 1)) = _; rw [Bool.true_and]; rfl, rfl⟩
        · have hd : decide ((k : Int) < 16) = false := decide_eq_false (by omega)
          have hd2 : decide (k < 16) = false := decide_eq_false h16
          rw [hd2]
          go_enter Try.func91, Try.ntmps91
          go_wp2
          go_ret
          exact ⟨rfl, rfl⟩
      · rw [if_neg h4]
        have b2 : (kind == 2) = false := beq_eq_false_iff_ne.2 h2
        have b3 : (kind == 3) = false := beq_eq_false_iff_ne.2 h3
        have b4 : (kind == 4) = false := beq_eq_false_iff_ne.2 h4
        clear h2 h3 h4
        go_enter Try.func91, Try.ntmps91
        go_wp2
        go_ret
        exact ⟨rfl, rfl⟩
end Go.Proofs.Ytnbiofcfphpikaa
