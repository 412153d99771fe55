/-
  The document's heap: the walks of New, Spans, row, Alloc.
-/
import Derived.Test.YtnflgjhgegggcaaRef3
namespace Go.Proofs.Ytnflgjhgegggcaa
open Go.RowKit

/-- What an Alloc of the document's heap leaves. -/
def RPost (w0 w : World) (R : Nat → Prop) (rb : Nat) (H : HS) (r : Option (Nat × HS)) (e : Ending) (w' : World) : Prop :=
  match r with
  | none => RetPair 0 false e ∧ RefA w0 w' R rb H ∧ Keeps (fun _ => False) w w'
  | some (a, H') => RetPair a true e ∧ RefA w0 w' R rb H' ∧ Keeps (fun k => k = rb) w w'

section
variable {w0 w : World} {R : Nat → Prop} {rb : Nat} {H H' : HS}

theorem run_adds' (hW : H.Wf) {m a : Nat} (hm : 2 ≤ m) (hm' : m ≤ 257) (h : H.allocRun m = some (a, H')) : HS.Adds H H' a (64 * m) := by
  have e : H.alloc ((64 * m : Nat) : Int) = some (a, H') := by
    rw [HS.alloc_run_eq (by omega) (by omega), show (64 * m + 63) / 64 = m by omega]
    exact h
  have := (hW.alloc_adds e).2.2
  rw [Int.toNat_natCast] at this
  unfold HS.roomOf at this
  rw [if_pos (by omega), show (64 * m + 63) / 64 = m by omega] at this
  exact this
theorem small_adds' (hW : H.Wf) {x a : Nat} (h1 : 1 ≤ x) (hx : x ≤ 64) (h : H.allocSmall (HS.classOf x) = some (a, H')) : HS.Adds H H' a (HS.classOf x) := by
  have e : H.alloc (x : Int) = some (a, H') := by
    rw [HS.alloc_small_eq h1 hx]
    exact h
  have := (hW.alloc_adds e).2.2
  rw [Int.toNat_natCast] at this
  unfold HS.roomOf at this
  rw [if_neg (by omega)] at this
  exact this

set_option maxRecDepth 100000 in
set_option maxHeartbeats 4000000 in
theorem RefA.rrow (h : RefA w0 w R rb H) (hW : H.Wf) (m : Nat) (hm : 2 ≤ m) (hm' : m ≤ 257) :
    Calls Try.prog 41 #[.pointer (some ⟨rb, 0, none⟩), .int .i64 m] w fun e w' => RPost w0 w R rb H (H.allocRun m) e w' := by
  have HA := Lib.hid h
  have HW := Lib.hid hW
  have hnb := hW.nb
  have hn2 := hW.n2
  have c0 := h.c0
  have HC1 : Hid (HS.cons H.cls 1 = 0) := by
    show _ = _
    rw [cons_no (by rw [hW.c0]; omega)]
  have HOUT : Hid ((∀ t, t < H.n → HS.cons H.cls (t + 1) ≠ m) → ∀ e w', RetPair 0 false e → RefA w0 w' R rb H → Keeps (fun _ => False) w w' → RPost w0 w R rb H (H.allocRun m) e w') := by
    intro hno e w' h1 h2 h3
    rw [HS.run_out hno]
    exact ⟨h1, h2, h3⟩
  have HHIT : Hid (∀ s, s < H.n → HS.cons H.cls (s + 1) = m → (∀ t, t < s → HS.cons H.cls (t + 1) ≠ m) → ∃ H', HS.Adds H H' (64 * (s + 1 - m)) (64 * m) ∧ ∀ e w', RetPair ((64 * (s + 1 - m) : Nat) : Int) true e → RefA w0 w' R rb H' → Keeps (fun k => k = rb) w w' → RPost w0 w R rb H (H.allocRun m) e w') := by
    intro s hs hc hp
    obtain ⟨H', e⟩ := HS.run_hit hs hc hp
    refine ⟨H', run_adds' hW hm hm' e, fun e' w' h1 h2 h3 => ?_⟩
    rw [e]
    exact ⟨h1, h2, h3⟩
  have HK0 : Hid (Keeps (fun _ => False) w w) := Keeps.refl _ _
  clear h hW
  generalize hn : H.n = n at *
  have HN := Lib.hid hn
  clear hn
  go_enter Try.func41, Try.ntmps41
  go_wp2
  go_loopw [6, 7] (fun c i wr => ∃ s : Nat, 1 ≤ s ∧ s ≤ n ∧ i = .int .i64 s ∧ c = .int .i64 (HS.cons H.cls s : Nat) ∧ Hid (Keeps (fun _ => False) w wr) ∧ Hid (∀ t, t < s → HS.cons H.cls (t + 1) ≠ m)) (fun _ i _ => n - (intOf i).toNat)
  case atStart => exact ⟨1, Nat.le_refl _, by omega, rfl, by rw [HC1.out]; rfl, HK0, fun t ht => by rw [show t = 0 by omega, HC1.out]; omega⟩
  case round =>
    clear HK0
    obtain ⟨s, hs1, hs, rfl, rfl, hK, hP⟩ := hrel
    have c0' := hK.out.cell0 c0
    by_cases hlt : s < n
    · have dk : decide (s < n) = true := decide_eq_true hlt
      have HC := Lib.hid ((HA.out.keep0 hK.out).rclass HW.out s hs1 (by rw [HN.out]; exact hlt))
      have hcl := cons_le H.cls s
      by_cases hz : H.cls s = 0
      · have hE : HS.cons H.cls (s + 1) = HS.cons H.cls s + 1 := cons_yes hz
        rw [show H.rcls s = 0 from HS.rcls_zero.2 hz] at HC
        by_cases hm2 : HS.cons H.cls s + 1 = m
        · obtain ⟨H', hAd, hF⟩ := HHIT.out s hlt (by omega) hP.out
          have hcs := (HS.cons_spec H.cls (s + 1)).1
          obtain ⟨a, ha⟩ : ∃ a, a = 64 * (s + 1 - m) := ⟨_, rfl⟩
          obtain ⟨r0, hr0⟩ : ∃ r0, r0 = 64 * m := ⟨_, rfl⟩
          have hms : m ≤ s + 1 := by omega
          have ea : 64 * ((s : Int) - (m : Int) + 1) = (a : Int) := by omega
          have er : 64 * (m : Int) = (r0 : Int) := by omega
          rw [← ha, ← hr0] at hAd
          rw [← ha] at hF
          have HF := Lib.hid hF
          have HAd := Lib.hid hAd
          have hac : (((HS.cons H.cls s : Nat) : Int) + 1 == (m : Int)) = true := beq_iff_eq.2 (by omega)
          have hba : a ≤ 1048576 := by omega
          have hbr : r0 ≤ 20000 := by omega
          generalize HS.cons H.cls s = c at *
          clear hz hE hm2 ha hr0 hAd hF hcs hms HHIT HOUT
          go_wp2_with fail
          refine HC.out.mono ?_
          rintro e w2 ⟨rfl, hk2⟩
          have HK2 : Hid (Keeps (fun _ => False) w w2) := hK.out.trans hk2 (fun _ _ h => h)
          clear hk2
          have HADD := Lib.hid ((HA.out.keep0 HK2.out).radd HW.out HAd.out)
          go_wp2_with fail
          refine HADD.out.mono ?_
          rintro e w3 ⟨rfl, h3⟩
          go_wp2
          go_ret2
          exact HF.out _ _ rfl h3.out.1 ((HK2.out.mono (fun _ _ h => h.elim)).trans h3.out.2 (fun _ _ h => h))
        · have hac : (((HS.cons H.cls s : Nat) : Int) + 1 == (m : Int)) = false := beq_eq_false_iff_ne.2 (by omega)
          have HP2 : Hid (∀ t, t < s + 1 → HS.cons H.cls (t + 1) ≠ m) := by
            intro t ht
            by_cases e : t = s
            · subst e; omega
            · exact hP.out t (by omega)
          have HE := Lib.hid hE
          generalize HS.cons H.cls s = c at *
          clear hz hE hm2 hP HHIT HOUT
          go_wp2_with fail
          refine HC.out.mono ?_
          rintro e w2 ⟨rfl, hk2⟩
          have HK2 : Hid (Keeps (fun _ => False) w w2) := hK.out.trans hk2 (fun _ _ h => h)
          clear hk2
          go_wp2
          go_roundw
          case rel => exact ⟨s + 1, by omega, by omega, by go_num, by rw [HE.out]; go_num, HK2, HP2⟩
          case measure => simp [intOf]; omega
      · have HE : Hid (HS.cons H.cls (s + 1) = 0) := cons_no hz
        have hrz : (H.rcls s == 0) = false := beq_eq_false_iff_ne.2 (fun e => hz (HS.rcls_zero.1 e))
        have HP2 : Hid (∀ t, t < s + 1 → HS.cons H.cls (t + 1) ≠ m) := by
          intro t ht
          by_cases e : t = s
          · subst e; rw [HE.out]; omega
          · exact hP.out t (by omega)
        generalize H.rcls s = rc at *
        generalize HS.cons H.cls s = c at *
        clear hz hP HHIT HOUT
        go_wp2_with fail
        refine HC.out.mono ?_
        rintro e w2 ⟨rfl, hk2⟩
        have HK2 : Hid (Keeps (fun _ => False) w w2) := hK.out.trans hk2 (fun _ _ h => h)
        clear hk2
        go_wp2
        go_roundw
        case rel => exact ⟨s + 1, by omega, by omega, by go_num, by rw [HE.out]; rfl, HK2, HP2⟩
        case measure => simp [intOf]; omega
    · obtain rfl : n = s := by omega
      have dk : decide (n < n) = false := by simp
      have HF := Lib.hid (HOUT.out fun t ht => hP.out t ht)
      clear HHIT HOUT
      go_wp2
      go_ret2
      exact HF.out _ _ rfl (HA.out.keep0 hK.out) hK.out
end
end Go.Proofs.Ytnflgjhgegggcaa
