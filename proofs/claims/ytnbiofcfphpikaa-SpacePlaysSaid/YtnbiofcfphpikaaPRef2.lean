/-
  The document's heap: row, New, Alloc, Free, Spans; lists of its blocks with headers.
-/
import Derived.Test.YtnbiofcfphpikaaPRef1
import Derived.Test.YtnbiofcfphpikaaV1
import Derived.Test.YtnbiofcfphpikaaFront
namespace Go.Proofs.Ytnbiofcfphpikaa
open Go.RowKit

/-- What an Alloc of the document's heap leaves. -/
def RPost (w0 w : World) (R : Nat → Prop) (rb : Nat) (H : HS) (r : Option (Nat × HS)) (e : Ending) (w' : World) : Prop :=
  match r with
  | none => RetPair 0 false e ∧ RefA w0 w' R rb H ∧ Keeps (fun _ => False) w w'
  | some (a, H') => RetPair a true e ∧ RefA w0 w' R rb H' ∧ Keeps (fun k => k = rb) w w'

section
variable {w0 w : World} {R : Nat → Prop} {rb : Nat} {H H' : HS}

theorem run_adds' (hW : H.Wf) {m a : Nat} (hm : 2 ≤ m) (hm' : m ≤ 257) (h : H.allocRun m = some (a, H')) : HS.Adds H H' a (64 * m) := by
  have e : H.alloc ((64 * m : Nat) : Int) = some (a, H') := by
    rw [HS.alloc_run_eq (by omega) (by omega), show (64 * m + 63) / 64 = m by omega]
    exact h
  have := (hW.alloc_adds e).2.2
  rw [Int.toNat_natCast] at this
  unfold HS.roomOf at this
  rw [if_pos (by omega), show (64 * m + 63) / 64 = m by omega] at this
  exact this
theorem small_adds' (hW : H.Wf) {x a : Nat} (h1 : 1 ≤ x) (hx : x ≤ 64) (h : H.allocSmall (HS.classOf x) = some (a, H')) : HS.Adds H H' a (HS.classOf x) := by
  have e : H.alloc (x : Int) = some (a, H') := by
    rw [HS.alloc_small_eq h1 hx]
    exact h
  have := (hW.alloc_adds e).2.2
  rw [Int.toNat_natCast] at this
  unfold HS.roomOf at this
  rw [if_neg (by omega)] at this
  exact this

set_option maxRecDepth 100000 in
set_option maxHeartbeats 4000000 in
theorem RefA.rrow (h : RefA w0 w R rb H) (hW : H.Wf) (m : Nat) (hm : 2 ≤ m) (hm' : m ≤ 257) :
    Calls Try.prog 87 #[.pointer (some ⟨rb, 0, none⟩), .int .i64 m] w fun e w' => RPost w0 w R rb H (H.allocRun m) e w' := by
  have HA := Lib.hid h
  have HW := Lib.hid hW
  have hnb := hW.nb
  have hn2 := hW.n2
  have c0 := h.c0
  have HC1 : Hid (HS.cons H.cls 1 = 0) := by
    show _ = _
    rw [cons_no (by rw [hW.c0]; omega)]
  have HOUT : Hid ((∀ t, t < H.n → HS.cons H.cls (t + 1) ≠ m) → ∀ e w', RetPair 0 false e → RefA w0 w' R rb H → Keeps (fun _ => False) w w' → RPost w0 w R rb H (H.allocRun m) e w') := by
    intro hno e w' h1 h2 h3
    rw [HS.run_out hno]
    exact ⟨h1, h2, h3⟩
  have HHIT : Hid (∀ s, s < H.n → HS.cons H.cls (s + 1) = m → (∀ t, t < s → HS.cons H.cls (t + 1) ≠ m) → ∃ H', HS.Adds H H' (64 * (s + 1 - m)) (64 * m) ∧ ∀ e w', RetPair ((64 * (s + 1 - m) : Nat) : Int) true e → RefA w0 w' R rb H' → Keeps (fun k => k = rb) w w' → RPost w0 w R rb H (H.allocRun m) e w') := by
    intro s hs hc hp
    obtain ⟨H', e⟩ := HS.run_hit hs hc hp
    refine ⟨H', run_adds' hW hm hm' e, fun e' w' h1 h2 h3 => ?_⟩
    rw [e]
    exact ⟨h1, h2, h3⟩
  have HK0 : Hid (Keeps (fun _ => False) w w) := Keeps.refl _ _
  clear h hW
  generalize hn : H.n = n at *
  have HN := Lib.hid hn
  clear hn
  go_enter Try.func87, Try.ntmps87
  go_wp2
  go_loopw [6, 7] (fun c i wr => ∃ s : Nat, 1 ≤ s ∧ s ≤ n ∧ i = .int .i64 s ∧ c = .int .i64 (HS.cons H.cls s : Nat) ∧ Hid (Keeps (fun _ => False) w wr) ∧ Hid (∀ t, t < s → HS.cons H.cls (t + 1) ≠ m)) (fun _ i _ => n - (intOf i).toNat)
  case atStart => exact ⟨1, Nat.le_refl _, by omega, rfl, by rw [HC1.out]; rfl, HK0, fun t ht => by rw [show t = 0 by omega, HC1.out]; omega⟩
  case round =>
    clear HK0
    obtain ⟨s, hs1, hs, rfl, rfl, hK, hP⟩ := hrel
    have c0' := hK.out.cell0 c0
    by_cases hlt : s < n
    · have dk : decide (s < n) = true := decide_eq_true hlt
      have HC := Lib.hid ((HA.out.keep0 hK.out).rclass HW.out s hs1 (by rw [HN.out]; exact hlt))
      have hcl := cons_le H.cls s
      by_cases hz : H.cls s = 0
      · have hE : HS.cons H.cls (s + 1) = HS.cons H.cls s + 1 := cons_yes hz
        rw [show H.rcls s = 0 from HS.rcls_zero.2 hz] at HC
        by_cases hm2 : HS.cons H.cls s + 1 = m
        · obtain ⟨H', hAd, hF⟩ := HHIT.out s hlt (by omega) hP.out
          have hcs := (HS.cons_spec H.cls (s + 1)).1
          obtain ⟨a, ha⟩ : ∃ a, a = 64 * (s + 1 - m) := ⟨_, rfl⟩
          obtain ⟨r0, hr0⟩ : ∃ r0, r0 = 64 * m := ⟨_, rfl⟩
          have hms : m ≤ s + 1 := by omega
          have ea : 64 * ((s : Int) - (m : Int) + 1) = (a : Int) := by omega
          have er : 64 * (m : Int) = (r0 : Int) := by omega
          rw [← ha, ← hr0] at hAd
          rw [← ha] at hF
          have HF := Lib.hid hF
          have HAd := Lib.hid hAd
          have hac : (((HS.cons H.cls s : Nat) : Int) + 1 == (m : Int)) = true := beq_iff_eq.2 (by omega)
          have hba : a ≤ 1048576 := by omega
          have hbr : r0 ≤ 20000 := by omega
          generalize HS.cons H.cls s = c at *
          clear hz hE hm2 ha hr0 hAd hF hcs hms HHIT HOUT
          go_wp2_with fail
          refine HC.out.mono ?_
          rintro e w2 ⟨rfl, hk2⟩
          have HK2 : Hid (Keeps (fun _ => False) w w2) := hK.out.trans hk2 (fun _ _ h => h)
          clear hk2
          have HADD := Lib.hid ((HA.out.keep0 HK2.out).radd HW.out HAd.out)
          go_wp2_with fail
          refine HADD.out.mono ?_
          rintro e w3 ⟨rfl, h3⟩
          go_wp2
          go_ret2
          exact HF.out _ _ rfl h3.out.1 ((HK2.out.mono (fun _ _ h => h.elim)).trans h3.out.2 (fun _ _ h => h))
        · have hac : (((HS.cons H.cls s : Nat) : Int) + 1 == (m : Int)) = false := beq_eq_false_iff_ne.2 (by omega)
          have HP2 : Hid (∀ t, t < s + 1 → HS.cons H.cls (t + 1) ≠ m) := by
            intro t ht
            by_cases e : t = s
            · subst e; omega
            · exact hP.out t (by omega)
          have HE := Lib.hid hE
          generalize HS.cons H.cls s = c at *
          clear hz hE hm2 hP HHIT HOUT
          go_wp2_with fail
          refine HC.out.mono ?_
          rintro e w2 ⟨rfl, hk2⟩
          have HK2 : Hid (Keeps (fun _ => False) w w2) := hK.out.trans hk2 (fun _ _ h => h)
          clear hk2
          go_wp2
          go_roundw
          case rel => exact ⟨s + 1, by omega, by omega, by go_num, by rw [HE.out]; go_num, HK2, HP2⟩
          case measure => simp [intOf]; omega
      · have HE : Hid (HS.cons H.cls (s + 1) = 0) := cons_no hz
        have hrz : (H.rcls s == 0) = false := beq_eq_false_iff_ne.2 (fun e => hz (HS.rcls_zero.1 e))
        have HP2 : Hid (∀ t, t < s + 1 → HS.cons H.cls (t + 1) ≠ m) := by
          intro t ht
          by_cases e : t = s
          · subst e; rw [HE.out]; omega
          · exact hP.out t (by omega)
        generalize H.rcls s = rc at *
        generalize HS.cons H.cls s = c at *
        clear hz hP HHIT HOUT
        go_wp2_with fail
        refine HC.out.mono ?_
        rintro e w2 ⟨rfl, hk2⟩
        have HK2 : Hid (Keeps (fun _ => False) w w2) := hK.out.trans hk2 (fun _ _ h => h)
        clear hk2
        go_wp2
        go_roundw
        case rel => exact ⟨s + 1, by omega, by omega, by go_num, by rw [HE.out]; rfl, HK2, HP2⟩
        case measure => simp [intOf]; omega
    · obtain rfl : n = s := by omega
      have dk : decide (n < n) = false := by simp
      have HF := Lib.hid (HOUT.out fun t ht => hP.out t ht)
      clear HHIT HOUT
      go_wp2
      go_ret2
      exact HF.out _ _ rfl (HA.out.keep0 hK.out) hK.out
end
end Go.Proofs.Ytnbiofcfphpikaa

namespace Go.Proofs.Ytnbiofcfphpikaa
open Go.RowKit

section
variable {w0 w : World} {R : Nat → Prop} {rb : Nat} {H H' : HS}

theorem rnew_no (w : World) (x : Int) (h : x < 128 ∨ 1048576 < x) :
    Calls Try.prog 30 #[.int .i64 x] w fun e w' => e = .returned (.tuple #[.pointer none, .bool false]) ∧ w = w' := by
  rcases h with h | h
  · have d1 : decide (x < 128) = true := decide_eq_true h
    go_enter Try.func30, Try.ntmps30
    go_wp2
    go_ret2
    exact ⟨rfl, rfl⟩
  · have d1 : decide (x < 128) = false := decide_eq_false (by omega)
    have d2 : decide ((1048576 : Int) < x) = true := decide_eq_true h
    go_enter Try.func30, Try.ntmps30
    go_wp2
    go_ret2
    exact ⟨rfl, rfl⟩
theorem new_blocks {x : Nat} (h1 : 128 ≤ x) (h2 : x ≤ 1048576) : (HS.new x).blocks = [] := ((HS.new_listed (L := id) h1 (new_wf h1 h2)).rest_done).2
theorem rnew_yes (w0 w : World) (h0 : w0.heap.size ≤ w.heap.size) (R : Nat → Prop) (hR : ∀ k, R k → k < w.heap.size) (x : Nat) (h1 : 128 ≤ x) (h2 : x ≤ 1048576) :
    Calls Try.prog 30 #[.int .i64 x] w fun e w' => ∃ rb, e = .returned (.tuple #[.pointer (some ⟨rb, 0, none⟩), .bool true]) ∧ Hid (RefA w0 w' R rb (HS.new x) ∧ Keeps (fun _ => False) w w') := by
  obtain ⟨n, hn⟩ : ∃ n, n = x / 64 := ⟨_, rfl⟩
  have d1 : decide ((x : Int) < 128) = false := decide_eq_false (by omega)
  have d2 : decide ((1048576 : Int) < (x : Int)) = false := decide_eq_false (by omega)
  have hdiv : (x : Int) / 64 = (n : Int) := by omega
  have hdiv2 : (x : Int).tdiv 64 = (n : Int) := by rw [Int.tdiv_eq_ediv_of_nonneg (by omega)]; omega
  have HF : Hid (∀ w' rb, w'.heap[rb]? = some (.cells #[.int .i64 (n : Nat), .slice none 0 0] 97 (0, 0)) → Keeps (fun _ => False) w w' → rb = w.heap.size → RefA w0 w' R rb (HS.new x) ∧ Keeps (fun _ => False) w w') := by
    intro w' rb hc hk e
    refine ⟨⟨.slice none 0 0, [], ⟨?_, World.ownsRow_nil _ _ _ _, fun x hx => (by cases hx), ?_, fun x hx => (by cases hx), List.nodup_nil⟩, fun k hf => ?_, fun k h => Nat.lt_of_lt_of_le (hR k h) hk.size⟩, hk⟩
    · rw [hc, hn]; rfl
    · rw [new_blocks h1 h2]; rfl
    · rcases hf with rfl | e' | ⟨x, hx, _⟩
      · exact ⟨by omega, fun h => by have := hR k h; omega⟩
      · simp [Value.ownBlock] at e'
      · cases hx
  clear hn h0 hR
  go_enter Try.func30, Try.ntmps30
  go_wp2
  go_ret2
  exact ⟨_, rfl, HF.out _ _ (heap_alloc_new w _) ((Keeps.refl _ _).alloc _) rfl⟩

theorem RefA.ralloc_bad (h : RefA w0 w R rb H) (x : Int) (hx : x < 1 ∨ 16448 < x) :
    Calls Try.prog 79 #[.pointer (some ⟨rb, 0, none⟩), .int .i64 x] w fun e w' => RPost w0 w R rb H (H.alloc x) e w' := by
  have e : H.alloc x = none := by unfold HS.alloc; rw [if_pos hx]
  have HF : Hid (∀ e w', RetPair 0 false e → w' = w → RPost w0 w R rb H (H.alloc x) e w') := by
    intro e' w' h1 h2
    subst h2
    rw [e]
    exact ⟨h1, h, Keeps.refl _ _⟩
  clear h e
  rcases hx with h | h
  · have d1 : decide (x < 1) = true := decide_eq_true h
    go_enter Try.func79, Try.ntmps79
    go_wp2
    go_ret2
    exact HF.out _ _ rfl rfl
  · have d1 : decide (x < 1) = false := decide_eq_false (by omega)
    have d2 : decide ((16448 : Int) < x) = true := decide_eq_true h
    go_enter Try.func79, Try.ntmps79
    go_wp2
    go_ret2
    exact HF.out _ _ rfl rfl
/-- row, with its answer named. -/
theorem RefA.rrow' (h : RefA w0 w R rb H) (hW : H.Wf) (m : Nat) (hm : 2 ≤ m) (hm' : m ≤ 257) :
    Calls Try.prog 87 #[.pointer (some ⟨rb, 0, none⟩), .int .i64 m] w fun e w' => ∃ v t, e = .returned (.tuple #[.int .i64 v, .bool t]) ∧ Hid (RPost w0 w R rb H (H.allocRun m) (.returned (.tuple #[.int .i64 v, .bool t])) w') := by
  refine (h.rrow hW m hm hm').mono ?_
  intro e w' h
  cases hr : H.allocRun m with
  | none =>
    rw [hr] at h
    obtain ⟨h1, h2⟩ := h
    unfold RetPair at h1
    subst h1
    exact ⟨_, _, rfl, rfl, h2⟩
  | some p =>
    rw [hr] at h
    obtain ⟨h1, h2⟩ := h
    unfold RetPair at h1
    subst h1
    exact ⟨_, _, rfl, rfl, h2⟩
theorem RefA.ralloc_great (h : RefA w0 w R rb H) (hW : H.Wf) (x : Nat) (h1 : 64 < x) (h2 : x ≤ 16448) :
    Calls Try.prog 79 #[.pointer (some ⟨rb, 0, none⟩), .int .i64 x] w fun e w' => RPost w0 w R rb H (H.alloc x) e w' := by
  rw [HS.alloc_run_eq h1 h2]
  obtain ⟨m, hm⟩ : ∃ m, m = (x + 63) / 64 := ⟨_, rfl⟩
  have HR := Lib.hid (h.rrow' hW m (by omega) (by omega))
  rw [← hm]
  have d1 : decide ((x : Int) < 1) = false := decide_eq_false (by omega)
  have d2 : decide ((16448 : Int) < (x : Int)) = false := decide_eq_false (by omega)
  have d3 : decide ((64 : Int) < (x : Int)) = true := decide_eq_true (by omega)
  have hdiv : ((x : Int) + 63) / 64 = (m : Int) := by omega
  have hdiv2 : ((x : Int) + 63).tdiv 64 = (m : Int) := by rw [Int.tdiv_eq_ediv_of_nonneg (by omega)]; omega
  clear h hW hm
  go_enter Try.func79, Try.ntmps79
  go_wp2_with fail
  refine HR.out.mono ?_
  rintro e w2 ⟨v, t, rfl, hp⟩
  go_wp2
  go_ret2
  exact hp.out

set_option maxRecDepth 100000 in
set_option maxHeartbeats 8000000 in
theorem RefA.ralloc_small (h : RefA w0 w R rb H) (hW : H.Wf) (x : Nat) (h1 : 1 ≤ x) (h2 : x ≤ 64) :
    Calls Try.prog 79 #[.pointer (some ⟨rb, 0, none⟩), .int .i64 x] w fun e w' => RPost w0 w R rb H (H.alloc x) e w' := by
  rw [HS.alloc_small_eq h1 h2]
  have HA := Lib.hid h
  have HW := Lib.hid hW
  have hnb := hW.nb
  have hn2 := hW.n2
  have c0 := h.c0
  have HCL := Lib.hid (HS.cl_classOf x h2).1
  have hd1 : decide ((x : Int) < 1) = false := decide_eq_false (by omega)
  have hd2 : decide ((16448 : Int) < (x : Int)) = false := decide_eq_false (by omega)
  have hd3 : decide ((64 : Int) < (x : Int)) = false := decide_eq_false (by omega)
  have HADD : Hid (∀ a H', H.allocSmall (HS.classOf x) = some (a, H') → HS.Adds H H' a (HS.classOf x)) := fun a H' e => small_adds' hW h1 h2 e
  have HST : 2 ≤ HS.classOf x := by have := (HS.cl_classOf x h2); unfold HS.classOf; (repeat' split) <;> omega
  clear h hW
  obtain ⟨cx, HCX⟩ : ∃ cx, Hid (cx = HS.classOf x) := ⟨_, rfl⟩
  rw [← HCX.out] at HADD HCL HST
  rw [← HCX.out]
  generalize hn : H.n = n at *
  have HN := Lib.hid hn
  clear hn
  go_enter Try.func79, Try.ntmps79
  go_wp2
  go_loop [6] (fun c => ∃ k : Nat, c = .int .i64 k ∧ Hid (HS.Cl (k : Int)) ∧ k ≤ cx) (fun c => 64 - (intOf c).toNat)
  case atStart => exact ⟨2, rfl, .inl rfl, HST⟩
  case round =>
    obtain ⟨k, rfl, hk, hkle⟩ := hrel
    have hp := HS.cl_pos hk.out
    obtain ⟨hp1, hp2, hp3, hp4, hp5⟩ := hp
    by_cases hlt : k < x
    · have hs := class_step hk.out hlt h2 (by rw [← HCX.out]; exact hkle)
      rw [← HCX.out] at hs
      have HS1 := Lib.hid hs.1
      have hs2 := hs.2
      have hk32 := HS.cl_pos hs.1
      have hk32' := hk32.2.1
      clear hs hk32
      go_wp2
      go_round
      case rel => exact ⟨2 * k, by go_num, HS1.out, hs2⟩
      case measure => simp [intOf]; omega
    · have hc := class_done hk.out hlt (by rw [← HCX.out]; exact hkle)
      rw [← HCX.out] at hc
      subst hc
      obtain ⟨c, rfl⟩ : ∃ c, c = cx := ⟨_, rfl⟩
      clear hkle HCL HST HCX
      have HOUT : Hid ((∀ t, t < n → H.hasRoom c t = false) → (∀ t, 1 ≤ t → t < n → H.cls t ≠ 0) → ∀ e w', RetPair 0 false e → RefA w0 w' R rb H → Keeps (fun _ => False) w w' → RPost w0 w R rb H (H.allocSmall c) e w') := by
        rw [← HN.out]
        intro hno hf e w' h1 h2 h3
        rw [HS.alloc_out HW.out hno hf]
        exact ⟨h1, h2, h3⟩
      have HHIT : Hid (∀ s k, s < n → (∀ t, t < s → H.hasRoom c t = false) → H.cls s = (c : Int) → k < 64 / c → H.room (64 * s + k * c) = 0 → (∀ j, j < k → H.room (64 * s + j * c) ≠ 0) → ∃ H', HS.Adds H H' (64 * s + k * c) c ∧ ∀ e w', RetPair ((64 * s + k * c : Nat) : Int) true e → RefA w0 w' R rb H' → Keeps (fun k => k = rb) w w' → RPost w0 w R rb H (H.allocSmall c) e w') := by
        rw [← HN.out]
        intro s k hs hp hc hk' h0 hj
        obtain ⟨H', e⟩ := HS.alloc_hit HW.out hk.out hs hp hc hk' h0 hj
        refine ⟨H', HADD.out _ _ e, fun e' w' h1 h2 h3 => ?_⟩
        rw [e]
        exact ⟨h1, h2, h3⟩
      have HNEW : Hid (∀ s, s < n → (∀ t, t < n → H.hasRoom c t = false) → H.cls s = 0 → (∀ t, 1 ≤ t → t < s → H.cls t ≠ 0) → ∃ H', HS.Adds H H' (64 * s) c ∧ ∀ e w', RetPair ((64 * s : Nat) : Int) true e → RefA w0 w' R rb H' → Keeps (fun k => k = rb) w w' → RPost w0 w R rb H (H.allocSmall c) e w') := by
        rw [← HN.out]
        intro s hs hno hc hf
        obtain ⟨H', e⟩ := HS.alloc_new HW.out hs hno hc hf
        refine ⟨H', HADD.out _ _ e, fun e' w' h1 h2 h3 => ?_⟩
        rw [e]
        exact ⟨h1, h2, h3⟩
      have HZ0 : Hid (H.hasRoom c 0 = false) := HS.hasRoom_zero HW.out c
      have HNO : Hid (∀ s, s < n → (H.cls s = (c : Int) → ∀ k, k < 64 / c → H.room (64 * s + k * c) ≠ 0) → H.hasRoom c s = false) := by
        rw [← HN.out]
        intro s hs hh
        exact HS.hasRoom_no HW.out hs hk.out hh
      have HRC : Hid (∀ s, H.rcls s = (c : Int) ↔ H.cls s = (c : Int)) := fun s => HS.rcls_class hp1
      have HK0 : Hid (Keeps (fun _ => False) w w) := Keeps.refl _ _
      go_wp2
      go_loopw [7] (fun i wr => ∃ s : Nat, 1 ≤ s ∧ s ≤ n ∧ i = .int .i64 s ∧ Hid (Keeps (fun _ => False) w wr) ∧ Hid (∀ t, t < s → H.hasRoom c t = false)) (fun i _ => n - (intOf i).toNat)
      case atStart => exact ⟨1, Nat.le_refl _, by omega, rfl, HK0, fun t ht => by rw [show t = 0 by omega]; exact HZ0.out⟩
      case round =>
        clear HK0
        obtain ⟨s, hs1, hs, rfl, hK, hP⟩ := hrel
        have c0' := hK.out.cell0 c0
        by_cases hlt2 : s < n
        · have dk : decide (s < n) = true := decide_eq_true hlt2
          have HC := Lib.hid ((HA.out.keep0 hK.out).rclass HW.out s hs1 (by rw [HN.out]; exact hlt2))
          by_cases hz : H.cls s = (c : Int)
          · rw [(HRC.out s).2 hz] at HC
            have HZ := Lib.hid hz
            clear hz
            go_wp2_with fail
            refine HC.out.mono ?_
            rintro e w2 ⟨rfl, hk2⟩
            have HK2 : Hid (Keeps (fun _ => False) w w2) := hK.out.trans hk2 (fun _ _ h => h)
            clear hk2 c0'
            go_wp2
            have hmul : Hid (64 / c * c = 64) := by
              show _ = _
              rcases HS.cl_cases hk.out with e | e | e | e | e | e <;> subst e <;> rfl
            generalize hM : 64 / c = M at *
            have HM := Lib.hid hM
            clear hM
            go_loopw [8] (fun i wr => ∃ j q : Nat, j ≤ M ∧ i = .int .i64 q ∧ Hid (q = 64 * s + j * c) ∧ Hid (Keeps (fun _ => False) w wr) ∧ Hid (∀ i, i < j → H.room (64 * s + i * c) ≠ 0)) (fun i _ => 64 * s + 64 - (intOf i).toNat)
            case atStart => exact ⟨0, 64 * s, Nat.zero_le _, by go_num, by show _ = _; simp, HK2, fun i hi => by omega⟩
            case round =>
              clear hK HK2
              obtain ⟨j, q, hj, rfl, hq, hK, hQ⟩ := hrel
              have hjc : Hid (j * c ≤ 64 ∧ (j < M → j * c + c ≤ 64) ∧ (j = M → j * c = 64)) := by
                have := hmul.out
                refine ⟨?_, fun h => ?_, fun h => by rw [h]; exact this⟩
                · have h3 : j * c ≤ M * c := Nat.mul_le_mul_right _ hj
                  omega
                · have h3 : (j + 1) * c ≤ M * c := Nat.mul_le_mul_right _ h
                  rw [Nat.succ_mul] at h3
                  omega
              have hq2 := hq.out
              have hjc1 := hjc.out.1
              have hjc2 := hjc.out.2.1
              have hjc3 := hjc.out.2.2
              generalize hjm : j * c = jc at *
              have hqb : q ≤ 1048640 := by omega
              by_cases hjM : j < M
              · have hqlt : q + c ≤ 64 * s + 64 := by have := hjc2 hjM; omega
                have dq : decide ((q : Int) < 64 * (s : Int) + 64) = true := decide_eq_true (by omega)
                have HFD := Lib.hid ((HA.out.keep0 hK.out).rfind HW.out (q : Int))
                rw [HS.roomI_nat] at HFD
                by_cases hr : H.room q = 0
                · obtain ⟨H', hAd, hF⟩ := HHIT.out s j hlt2 hP.out HZ.out hjM (by rw [hjm, ← hq2]; exact hr) hQ.out
                  rw [hjm, ← hq2] at hAd
                  rw [hjm, ← hq2] at hF
                  have HF := Lib.hid hF
                  have HAd := Lib.hid hAd
                  have hfd : Hid (Calls Try.prog 80 #[.pointer (some ⟨rb, 0, none⟩), .int .i64 q] wr fun e w' => e = .returned (.int .i64 (-1)) ∧ ∃ q, w' = wr.drewN q) := by
                    refine HFD.out.mono ?_
                    rintro e w' ⟨⟨i, rfl, h1, -⟩, h3⟩
                    exact ⟨by rw [h1 hr], h3⟩
                  clear hq2 hjc2 hjc3 hjm hAd hF HHIT HOUT HNEW HNO hr HFD
                  go_wp2_with fail
                  refine hfd.out.mono ?_
                  rintro e w3 ⟨rfl, q3, rfl⟩
                  have HK3 : Hid (Keeps (fun _ => False) w (wr.drewN q3)) := hK.out.drewN q3
                  have HAD := Lib.hid ((HA.out.keep0 HK3.out).radd HW.out HAd.out)
                  go_wp2_with fail
                  refine HAD.out.mono ?_
                  rintro e w4 ⟨rfl, h4⟩
                  go_wp2
                  go_ret2
                  exact HF.out _ _ rfl h4.out.1 ((HK3.out.mono (fun _ _ h => h.elim)).trans h4.out.2 (fun _ _ h => h))
                · have hfd : Hid (Calls Try.prog 80 #[.pointer (some ⟨rb, 0, none⟩), .int .i64 q] wr fun e w' => ∃ i : Int, e = .returned (.int .i64 i) ∧ decide (i < 0) = false ∧ ∃ q, w' = wr.drewN q) := by
                    refine HFD.out.mono ?_
                    rintro e w' ⟨⟨i, rfl, -, h2⟩, h3⟩
                    exact ⟨i, rfl, decide_eq_false (by have := h2 hr; omega), h3⟩
                  have HQ2 : Hid (∀ i, i < j + 1 → H.room (64 * s + i * c) ≠ 0) := by
                    intro i hi
                    by_cases e : i = j
                    · subst e; rw [hjm, ← hq2]; exact hr
                    · exact hQ.out i (by omega)
                  have HQN : Hid (q + c = 64 * s + (j + 1) * c) := by
                    show _ = _
                    have e : (j + 1) * c = j * c + c := Nat.succ_mul j c
                    rw [e, hjm]; omega
                  clear hq2 hjc2 hjc3 hjm HHIT HOUT HNEW HNO hr HFD
                  go_wp2_with fail
                  refine hfd.out.mono ?_
                  rintro e w3 ⟨i3, rfl, hi3, q3, rfl⟩
                  have HK3 : Hid (Keeps (fun _ => False) w (wr.drewN q3)) := hK.out.drewN q3
                  go_wp2
                  go_roundw
                  case rel => exact ⟨j + 1, q + c, by omega, by go_num, HQN, HK3, HQ2⟩
                  case measure => simp [intOf]; omega
              · have hjM' : j = M := by omega
                have dq : decide ((q : Int) < 64 * (s : Int) + 64) = false := decide_eq_false (by have := hjc3 hjM'; omega)
                have HP2 : Hid (∀ t, t < s + 1 → H.hasRoom c t = false) := by
                  intro t ht
                  by_cases e : t = s
                  · subst e
                    exact HNO.out t hlt2 fun _ k hk' => hQ.out k (by omega)
                  · exact hP.out t (by omega)
                clear hq2 hjc2 hjc3 hjm HHIT HOUT HNEW HNO
                go_wp2
                go_roundw
                case rel => exact ⟨s + 1, by omega, by omega, by go_num, hK, HP2⟩
                case measure => simp [intOf]; omega
          · have hrz : (H.rcls s == (c : Int)) = false := beq_eq_false_iff_ne.2 (fun e => hz ((HRC.out s).1 e))
            have HP2 : Hid (∀ t, t < s + 1 → H.hasRoom c t = false) := by
              intro t ht
              by_cases e : t = s
              · subst e
                exact HNO.out t hlt2 fun e => absurd e hz
              · exact hP.out t (by omega)
            generalize H.rcls s = rc at *
            clear hz hP HHIT HOUT HNEW
            go_wp2_with fail
            refine HC.out.mono ?_
            rintro e w2 ⟨rfl, hk2⟩
            have HK2 : Hid (Keeps (fun _ => False) w w2) := hK.out.trans hk2 (fun _ _ h => h)
            clear hk2
            go_wp2
            go_roundw
            case rel => exact ⟨s + 1, by omega, by omega, by go_num, HK2, HP2⟩
            case measure => simp [intOf]; omega
        · obtain rfl : n = s := by omega
          have dk : decide (n < n) = false := by simp
          clear HHIT
          have hK0 := hK
          go_wp2
          go_loopw [9] (fun i wr => ∃ s : Nat, 1 ≤ s ∧ s ≤ n ∧ i = .int .i64 s ∧ Hid (Keeps (fun _ => False) w wr) ∧ Hid (∀ t, 1 ≤ t → t < s → H.cls t ≠ 0)) (fun i _ => n - (intOf i).toNat)
          case atStart => exact ⟨1, Nat.le_refl _, by omega, rfl, hK0, fun t h1 h2 => by omega⟩
          case round =>
            clear hK hK0 c0'
            obtain ⟨s, hs1, hs, rfl, hK, hF⟩ := hrel
            have c0' := hK.out.cell0 c0
            by_cases hlt2 : s < n
            · have dk : decide (s < n) = true := decide_eq_true hlt2
              have HC := Lib.hid ((HA.out.keep0 hK.out).rclass HW.out s hs1 (by rw [HN.out]; exact hlt2))
              by_cases hz : H.cls s = 0
              · rw [show H.rcls s = 0 from HS.rcls_zero.2 hz] at HC
                obtain ⟨H', hAd, hF'⟩ := HNEW.out s hlt2 hP.out hz hF.out
                obtain ⟨a, ha⟩ : ∃ a, a = 64 * s := ⟨_, rfl⟩
                have ea : 64 * (s : Int) = (a : Int) := by omega
                rw [← ha] at hAd
                rw [← ha] at hF'
                have HF := Lib.hid hF'
                have HAd := Lib.hid hAd
                have hba : a ≤ 1048576 := by omega
                clear hz hAd hF' HNEW HOUT HNO ha
                go_wp2_with fail
                refine HC.out.mono ?_
                rintro e w2 ⟨rfl, hk2⟩
                have HK2 : Hid (Keeps (fun _ => False) w w2) := hK.out.trans hk2 (fun _ _ h => h)
                clear hk2
                have HAD := Lib.hid ((HA.out.keep0 HK2.out).radd HW.out HAd.out)
                go_wp2_with fail
                refine HAD.out.mono ?_
                rintro e w4 ⟨rfl, h4⟩
                go_wp2
                go_ret2
                exact HF.out _ _ rfl h4.out.1 ((HK2.out.mono (fun _ _ h => h.elim)).trans h4.out.2 (fun _ _ h => h))
              · have hrz : (H.rcls s == 0) = false := beq_eq_false_iff_ne.2 (fun e => hz (HS.rcls_zero.1 e))
                have HF2 : Hid (∀ t, 1 ≤ t → t < s + 1 → H.cls t ≠ 0) := by
                  intro t h1 h2
                  by_cases e : t = s
                  · subst e; exact hz
                  · exact hF.out t h1 (by omega)
                generalize H.rcls s = rc at *
                clear hz hF HNEW HOUT HNO
                go_wp2_with fail
                refine HC.out.mono ?_
                rintro e w2 ⟨rfl, hk2⟩
                have HK2 : Hid (Keeps (fun _ => False) w w2) := hK.out.trans hk2 (fun _ _ h => h)
                clear hk2
                go_wp2
                go_roundw
                case rel => exact ⟨s + 1, by omega, by omega, by go_num, HK2, HF2⟩
                case measure => simp [intOf]; omega
            · obtain rfl : n = s := by omega
              have dk : decide (n < n) = false := by simp
              have HF := Lib.hid (HOUT.out hP.out hF.out)
              clear HNEW HOUT HNO
              go_wp2
              go_ret2
              exact HF.out _ _ rfl (HA.out.keep0 hK.out) hK.out
theorem RefA.ralloc (h : RefA w0 w R rb H) (hW : H.Wf) (x : Int) :
    Calls Try.prog 79 #[.pointer (some ⟨rb, 0, none⟩), .int .i64 x] w fun e w' => RPost w0 w R rb H (H.alloc x) e w' := by
  by_cases hx : x < 1 ∨ 16448 < x
  · exact h.ralloc_bad x hx
  · obtain ⟨n, rfl⟩ : ∃ n : Nat, x = (n : Int) := ⟨x.toNat, by omega⟩
    by_cases hg : 64 < n
    · exact h.ralloc_great hW n hg (by omega)
    · exact h.ralloc_small hW n (by omega) (by omega)
end
end Go.Proofs.Ytnbiofcfphpikaa

namespace Go.Proofs.Ytnbiofcfphpikaa
open Go.RowKit

theorem rball_one' {M : List RB} : ∀ u ∈ rball M, u.oneCell' = true := by
  intro u hu
  unfold rball at hu
  obtain ⟨x, _, hx⟩ := List.mem_flatMap.1 hu
  exact rb_cells x u hx
section
variable {w : World}
/-- append of blocks. -/
theorem wpList_appRBs {ops : Array Oper} {rest : List Oper} {o : Oper} {a : Act} {Q : Exit → Act → World → Prop} (hgd : o.guard = none) (s x : Operand)
    (ho : o.op = .call { callee := .builtin .append, args := #[s, x], argTypes := #[ (95 : Nat) , (95 : Nat) ] })
    (base : Nat) (v : Value) (n : Nat) (xs : List Value) (hs : a.eval s = v) (hown : w.ownsRow base 112 3 v n xs) (b off m c : Nat) (M : List RB) (hm : M.length = m) (hx : a.eval x = .slice (some ⟨b, off, none⟩) m c)
    (hnews : ∀ j u, (rball M)[j]? = some u → w.cell? ⟨b, off + j, none⟩ = some u) (hn : n + m ≤ 1000000000) (hbase : base ≤ w.heap.size)
    (h : ∀ v' w', w'.ownsRow base 112 3 v' (n + m) (xs ++ rball M) → Keeps (fun k => v.ownBlock = some k) w w' → wpList Try.prog ops Q rest (a.put o.dst v') w') : wpList Try.prog ops Q (o :: rest) a w := by
  obtain ⟨i3, hi3, hy0, hy1, hy2⟩ := info_parts info_block
  have hadd : ∀ j, (⟨b, off, none⟩ : Addr).add j = ⟨b, off + j, none⟩ := fun j => by unfold Addr.add; split <;> simp_all
  obtain ⟨v', w', hr, h2, h3, _⟩ := run_append_own (P := Try.prog) w base 95 o.type 112 i3 _ 3 40 underlying_blocks hi3 hy0 hy1 hy2 (by rfl) (by omega) v n xs hown ⟨b, off, none⟩ m c (rball M) (by rw [rball_length, hm])
    (fun j u hj => by rw [hadd]; exact hnews j u hj) rball_one' (by unfold maxLen; omega) (by omega) hbase
  refine wpList_plain hgd fun _ hK => ?_
  unfold Oper.wp execOp
  simp only [ho, resolve, invoke, builtin, Sem.run_bind, Sem.run_pure, Result.andThen_ok, List.map_toArray, List.map_cons, List.map_nil, hs, hx, hr]
  exact hK _ _ (h v' w' h2 (grownBy_keeps h3))
end

/-- A block is taken out of the list. -/
theorem RefAt.take {w wx : World} {rb : Nat} {lv v : Value} {L : List RB} {H : HS} {i : Nat} (h : RefAt w rb lv L H) (hW : H.Wf) (hi : i < L.length) (hk : Keeps (fun _ => False) w wx)
    (hrow : wx.ownsRow w.heap.size 112 3 v (i + (L.length - (i + 1))) (rball (L.take i) ++ rball (L.drop (i + 1)))) :
    RefAt (wx.setCell ⟨rb, 1, none⟩ v) rb v (L.take i ++ L.drop (i + 1)) (H.freeAt (ra L i)) ∧ Keeps (fun k => k = rb) w (wx.setCell ⟨rb, 1, none⟩ v) := by
  have hx := h.keep hk (fun _ _ h => h)
  have hK : Keeps (fun k => k = rb) wx (wx.setCell ⟨rb, 1, none⟩ v) := (Keeps.refl (fun k => k = rb) wx).setCell (p := ⟨rb, 1, none⟩) (fun _ => rfl) v
  have hT := hW.free_takes (h.room_ne hW hi)
  have hll : (L.take i ++ L.drop (i + 1)).length = i + (L.length - (i + 1)) := by
    simp
    omega
  have hrb : v.ownBlock ≠ some rb := by
    intro e
    rcases hrow.2 with ⟨rfl, _⟩ | ⟨g', cap, cur, rfl, _, hg, _⟩
    · simp [Value.ownBlock] at e
    · simp [Value.ownBlock] at e
      subst e
      rw [hx.hd] at hg
      simp at hg
  have hsub : ∀ x ∈ L.take i ++ L.drop (i + 1), x ∈ L := by
    intro x hx'
    rcases List.mem_append.1 hx' with e | e
    · exact List.mem_of_mem_take e
    · exact List.mem_of_mem_drop e
  have hats := hT.split hW (i := i) (by rw [← h.len]; exact hi) (by
    rw [← h.ats, List.getElem?_map, List.getElem?_eq_getElem hi]
    unfold ra
    rw [rb_get hi]; rfl)
  rw [← h.ats] at hats
  have hne : ∀ x ∈ L.take i ++ L.drop (i + 1), x.a ≠ ra L i := by
    intro x hx' e
    have : ra L i ∈ (H.freeAt (ra L i)).blocks := by
      rw [hats, ← e, ← List.map_take, ← List.map_drop, ← List.map_append]
      exact List.mem_map.2 ⟨x, hx', rfl⟩
    exact (hT.wf.mem_blocks _).1 this hT.is
  refine ⟨⟨?_, ?_, ?_, ?_, ?_, ?_⟩, (hk.mono (fun _ _ h => h.elim)).trans hK (fun k _ e => e)⟩
  · rw [hT.n]
    have := heap_setCell_same wx rb 1 _ _ v hx.hd
    rw [this]
    rfl
  · rw [hll, rball_append]
    exact ownsRow_low (ownsRow_keeps hrow hK (fun k e1 e2 => hrb (by rw [e1, e2]))) (Nat.zero_le _)
  · intro x hx'
    have e := hsub x hx'
    have hw := (hx.wds x e).keep hK (fun e' => by
      have h1 := hx.wds x e
      obtain ⟨c, hc, _⟩ := h1
      rw [e'] at hc
      rw [hx.hd] at hc
      simp at hc)
    rw [hT.words]
    exact hw
  · rw [hats]; simp
  · intro x hx'
    rw [hT.other _ (hne x hx')]
    exact h.rms x (hsub x hx')
  · have h0 := h.gs
    rw [List.map_append]
    have e0 : L.map RB.g = (L.take i).map RB.g ++ (L.drop i).map RB.g := by rw [← List.map_append, List.take_append_drop]
    rw [e0, List.drop_eq_getElem_cons hi, List.map_cons, List.nodup_append, List.nodup_cons] at h0
    rw [List.nodup_append]
    exact ⟨h0.1, h0.2.1.2, fun x hx' y hy => h0.2.2 x hx' y (List.mem_cons_of_mem _ hy)⟩

section
variable {w0 w : World} {R : Nat → Prop} {rb : Nat} {H H' : HS}
theorem RefA.rfree_no (h : RefA w0 w R rb H) (hW : H.Wf) (x : Int) (hr : H.roomI x = 0) :
    Calls Try.prog 82 #[.pointer (some ⟨rb, 0, none⟩), .int .i64 x] w fun e w' => e = .returned (.bool false) ∧ ∃ q, w' = w.drewN q := by
  have HFD : Hid (Calls Try.prog 80 #[.pointer (some ⟨rb, 0, none⟩), .int .i64 x] w fun e w' => e = .returned (.int .i64 (-1)) ∧ ∃ q, w' = w.drewN q) := by
    refine (h.rfind hW x).mono ?_
    rintro e w' ⟨⟨i, rfl, h1, -⟩, h3⟩
    exact ⟨by rw [h1 hr], h3⟩
  clear h hW hr
  go_enter Try.func82, Try.ntmps82
  go_wp2_with fail
  refine HFD.out.mono ?_
  rintro e w3 ⟨rfl, q3, rfl⟩
  go_wp2
  go_ret
  exact ⟨rfl, q3, rfl⟩

set_option maxRecDepth 100000 in
set_option maxHeartbeats 4000000 in
theorem rfree_at {lv : Value} {L : List RB} (h : RefAt w rb lv L H) (hW : H.Wf) {i : Nat} (hi : i < L.length) :
    Calls Try.prog 82 #[.pointer (some ⟨rb, 0, none⟩), .int .i64 (ra L i : Nat)] w fun e w' => e = .returned (.bool true) ∧ ∃ wx v, w' = wx.setCell ⟨rb, 1, none⟩ v ∧ Hid (Keeps (fun _ => False) w wx ∧
      wx.ownsRow w.heap.size 112 3 v (i + (L.length - (i + 1))) (rball (L.take i) ++ rball (L.drop (i + 1)))) := by
  have hlen := h.len_le hW
  obtain ⟨al, cl, rfl, hcl⟩ := h.slice
  have c1 := h.c1
  have HFD := Lib.hid (rfind_calls h hW (ra L i : Nat))
  rw [h.find_at hi] at HFD
  obtain ⟨b, rfl, -, -⟩ := h.at_ hi
  have HCE : Hid (∀ j u, (rball L)[j]? = some u → w.cell? ⟨b, j, none⟩ = some u) := by
    intro j u hj
    have hjl : j < L.length * 3 := by
      rcases Nat.lt_or_ge j (L.length * 3) with h | h
      · exact h
      · rw [List.getElem?_eq_none (by rw [rball_length]; exact h)] at hj; cases hj
    rw [World.ownsRow.cellAt h.row j hjl]
    exact hj
  have HF1 := Lib.hid (fun wx (hk : Keeps (fun _ => False) w wx) => (show wx.frozen? ⟨rb, 1, none⟩ = false by
    have := hk.at_ h.hd (fun h => h)
    simp [World.frozen?, this]))
  have HL1 : Hid ((L.take i).length = i) := by show _ = _; rw [List.length_take]; omega
  have HL2 : Hid ((L.drop (i + 1)).length = L.length - (i + 1)) := by show _ = _; rw [List.length_drop]
  have HN1 : Hid (∀ wx, Keeps (fun _ => False) w wx → ∀ j u, (rball (L.take i))[j]? = some u → wx.cell? ⟨b, 0 + j, none⟩ = some u) := by
    intro wx hk j u hj
    rw [rball_take, List.getElem?_take] at hj
    split at hj
    · rw [Nat.zero_add]; exact hk.cell0 (HCE.out j u hj)
    · cases hj
  have HN2 : Hid (∀ wx, Keeps (fun _ => False) w wx → ∀ j u, (rball (L.drop (i + 1)))[j]? = some u → wx.cell? ⟨b, (i + 1) * 3 + j, none⟩ = some u) := by
    intro wx hk j u hj
    rw [rball_drop, List.getElem?_drop] at hj
    exact hk.cell0 (HCE.out _ u hj)
  obtain ⟨off2, hof⟩ : ∃ off2, off2 = if cl = i + 1 then 0 else (i + 1) * 3 := ⟨_, rfl⟩
  have HIF : Hid ((if cl = i + 1 then some (⟨b, 0, none⟩ : Addr) else some ⟨b, (i + 1) * 3, none⟩) = some ⟨b, off2, none⟩) := by
    show _ = _
    rw [hof]
    split <;> rfl
  have HN3 : Hid (∀ wx, Keeps (fun _ => False) w wx → ∀ j u, (rball (L.drop (i + 1)))[j]? = some u → wx.cell? ⟨b, off2 + j, none⟩ = some u) := by
    intro wx hk j u hj
    rw [hof]
    split
    · have e : L.drop (i + 1) = [] := List.drop_of_length_le (by omega)
      rw [e] at hj; simp [rball] at hj
    · exact HN2.out wx hk j u hj
  clear HN2 hof
  generalize ra L i = y at *
  clear h hW
  obtain ⟨n, HN⟩ : ∃ n, Hid (n = L.length) := ⟨_, rfl⟩
  rw [← HN.out] at HL2 hlen c1 hcl hi
  rw [← HN.out]
  have HNIL : ∀ q, Hid ((w.drewN q).ownsRow w.heap.size 112 3 (.slice none 0 0) 0 []) := fun q => World.ownsRow_nil _ _ _ _
  go_enter Try.func82, Try.ntmps82
  go_wp2_with fail
  refine HFD.out.mono ?_
  rintro e w3 ⟨rfl, q3, rfl⟩
  have hi1 : (i : Int) ≤ (n : Int) := by omega
  have hi2 : (i : Int) + 1 ≤ (n : Int) := by omega
  have dz : decide ((i : Int) < 0) = false := decide_eq_false (by omega)
  go_wp2_with (at_builtin; (first | ((refine wpList_appRBs rfl _ _ rfl w.heap.size (.slice none 0 0) 0 [] rfl (HNIL q3).out b 0 i _ (L.take i) HL1.out rfl (HN1.out _ ((Keeps.refl _ w).drewN q3)) (by omega) (Nat.le_refl _) ?_; intro v1 w4 hO1 hK1; have HK4 : Hid (Keeps (fun _ => False) w w4) := ((Keeps.refl (fun _ => False) w).drewN q3).trans hK1 (fun k _ e => by simp [Value.ownBlock] at e); have HO1 : Hid (w4.ownsRow w.heap.size 112 3 v1 i (rball (L.take i))) := (by have := hO1; rw [Nat.zero_add, List.nil_append] at this; exact this); clear hO1 hK1; have c4 := HK4.out.cell0 c1)) | ((refine wpList_appRBs rfl _ _ rfl w.heap.size v1 i (rball (L.take i)) rfl HO1.out b off2 (n - (i + 1)) (cl - (i + 1)) (L.drop (i + 1)) HL2.out (by show Value.slice (if cl = i + 1 then _ else _) _ _ = _; rw [HIF.out]) (HN3.out _ HK4.out) (by omega) HK4.out.size ?_; intro v2 w5 hO2 hK2; obtain ⟨a2, cp2, rfl, -⟩ := ownsRow_slice hO2; have HK5 : Hid (Keeps (fun _ => False) w w5) := (HK4.out.trans hK2 (fun k hk e => by have := (HO1.out.lt k e).1; omega)); have f5 := HF1.out w5 HK5.out; have c5 := HK5.out.cell0 c1; have HO2 := Lib.hid hO2; clear hO2 hK2))))
  all_goals go_ret
  all_goals exact ⟨rfl, w5, _, rfl, HK5.out, HO2.out⟩
theorem RefA.rfree_yes (h : RefA w0 w R rb H) (hW : H.Wf) (x : Int) (hr : H.roomI x ≠ 0) :
    Calls Try.prog 82 #[.pointer (some ⟨rb, 0, none⟩), .int .i64 x] w fun e w' => e = .returned (.bool true) ∧ Hid (RefA w0 w' R rb (H.freeAt x.toNat) ∧ Keeps (fun k => k = rb) w w') := by
  obtain ⟨lv, L, h1, h2, h3⟩ := h
  rcases h1.find_room hW x with ⟨e1, -⟩ | ⟨i, hi, rfl, -⟩
  · exact absurd e1 hr
  · refine (rfree_at h1 hW hi).mono ?_
    rintro e w' ⟨he, wx, v, rfl, h4⟩
    have hk := h1.take hW hi h4.out.1 h4.out.2
    rw [Int.toNat_natCast]
    refine ⟨he, ⟨v, _, hk.1, fun k hf => ?_, fun k hr => ?_⟩, hk.2⟩
    · have hs : w0.heap.size ≤ w.heap.size := by
        have := (h2 rb (.inl rfl)).1
        have := h1.lt rb (.inl rfl)
        omega
      rcases hf with e | e | ⟨x, hx, e⟩
      · exact h2 k (.inl e)
      · have := (h4.out.2.lt k e).1
        exact ⟨by omega, fun hr => by have := h3 k hr; omega⟩
      · refine h2 k (.inr (.inr ⟨x, ?_, e⟩))
        rcases List.mem_append.1 hx with e | e
        · exact List.mem_of_mem_take e
        · exact List.mem_of_mem_drop e
    · exact Nat.lt_of_lt_of_le (h3 k hr) hk.2.size
end
end Go.Proofs.Ytnbiofcfphpikaa

namespace Go.Proofs.Ytnbiofcfphpikaa
open Go.RowKit

section
variable {w0 w : World} {R : Nat → Prop} {rb : Nat} {H H' : HS}

set_option maxRecDepth 100000 in
set_option maxHeartbeats 4000000 in
theorem RefA.rspans (h : RefA w0 w R rb H) (hW : H.Wf) :
    Calls Try.prog 67 #[.pointer (some ⟨rb, 0, none⟩)] w fun e w' => e = .returned (.int .i64 (H.spans : Nat)) ∧ Keeps (fun _ => False) w w' := by
  have HA := Lib.hid h
  have HW := Lib.hid hW
  have hnb := hW.nb
  have hn2 := hW.n2
  have c0 := h.c0
  have HS1 : Hid (HS.cf H.cls 1 = 0) := by
    show _ = _
    rw [HS.cf_no (by rw [hW.c0]; omega)]
    rfl
  have HK0 : Hid (Keeps (fun _ => False) w w) := Keeps.refl _ _
  clear h hW
  unfold HS.spans
  generalize hn : H.n = n at *
  have HN := Lib.hid hn
  clear hn
  go_enter Try.func67, Try.ntmps67
  go_wp2
  go_loopw [3, 4] (fun c i wr => ∃ s : Nat, 1 ≤ s ∧ s ≤ n ∧ i = .int .i64 s ∧ c = .int .i64 (HS.cf H.cls s : Nat) ∧ Hid (Keeps (fun _ => False) w wr)) (fun _ i _ => n - (intOf i).toNat)
  case atStart => exact ⟨1, Nat.le_refl _, by omega, rfl, by rw [HS1.out]; rfl, HK0⟩
  case round =>
    clear HK0
    obtain ⟨s, hs1, hs, rfl, rfl, hK⟩ := hrel
    have c0' := hK.out.cell0 c0
    by_cases hlt : s < n
    · have dk : decide (s < n) = true := decide_eq_true hlt
      have HC := Lib.hid ((HA.out.keep0 hK.out).rclass HW.out s hs1 (by rw [HN.out]; exact hlt))
      have hcf := HS.cf_le H.cls s
      by_cases hz : H.cls s = 0
      · have HE : Hid (HS.cf H.cls (s + 1) = HS.cf H.cls s + 1) := HS.cf_yes hz
        rw [show H.rcls s = 0 from HS.rcls_zero.2 hz] at HC
        generalize HS.cf H.cls s = c at *
        clear hz
        go_wp2_with fail
        refine HC.out.mono ?_
        rintro e w2 ⟨rfl, hk2⟩
        have HK2 : Hid (Keeps (fun _ => False) w w2) := hK.out.trans hk2 (fun _ _ h => h)
        clear hk2
        go_wp2
        go_roundw
        case rel => exact ⟨s + 1, by omega, by omega, by go_num, by rw [HE.out]; go_num, HK2⟩
        case measure => simp [intOf]; omega
      · have HE : Hid (HS.cf H.cls (s + 1) = HS.cf H.cls s) := HS.cf_no hz
        have hrz : (H.rcls s == 0) = false := beq_eq_false_iff_ne.2 (fun e => hz (HS.rcls_zero.1 e))
        generalize H.rcls s = rc at *
        generalize HS.cf H.cls s = c at *
        clear hz
        go_wp2_with fail
        refine HC.out.mono ?_
        rintro e w2 ⟨rfl, hk2⟩
        have HK2 : Hid (Keeps (fun _ => False) w w2) := hK.out.trans hk2 (fun _ _ h => h)
        clear hk2
        go_wp2
        go_roundw
        case rel => exact ⟨s + 1, by omega, by omega, by go_num, by rw [HE.out], HK2⟩
        case measure => simp [intOf]; omega
    · obtain rfl : n = s := by omega
      have dk : decide (n < n) = false := by simp
      go_wp2
      go_ret
      exact ⟨rfl, hK.out⟩

end
end Go.Proofs.Ytnbiofcfphpikaa

namespace Go.Proofs.Ytnbiofcfphpikaa
open Go.RowKit

structure LB where
  a : Nat
  k : Int
  s : Int
  m : Int
  wa : Option Addr
  wl : Nat
  wc : Nat
def LB.cells (x : LB) : List Value := [.int .i64 (x.a : Nat), .int .i64 x.k, .int .i64 x.s, .int .i64 x.m, .slice x.wa x.wl x.wc]
def lball (L : List LB) : List Value := L.flatMap LB.cells
def lbd : LB := ⟨0, 0, 0, 0, none, 0, 0⟩
def lbat (L : List LB) (i : Nat) : LB := L.getD i lbd
theorem lbat_get {L : List LB} {i : Nat} (hi : i < L.length) : lbat L i = L[i] := by unfold lbat; rw [List.getD_eq_getElem?_getD, List.getElem?_eq_getElem hi]; rfl
theorem lball_cons (x : LB) (L : List LB) : lball (x :: L) = x.cells ++ lball L := by simp [lball]
theorem lball_append (a b : List LB) : lball (a ++ b) = lball a ++ lball b := by simp [lball]
theorem lball_one (x : LB) : lball [x] = x.cells := by simp [lball]
theorem lb_cells_length (x : LB) : x.cells.length = 5 := by simp [LB.cells]
theorem lball_length (L : List LB) : (lball L).length = L.length * 5 := by
  induction L with
  | nil => rfl
  | cons x L ih => rw [lball_cons, List.length_append, ih, List.length_cons, lb_cells_length]; omega
theorem lball_at {L : List LB} : ∀ {i : Nat}, i < L.length → ∀ j, j < 5 → (lball L)[i * 5 + j]? = (lbat L i).cells[j]? := by
  induction L with
  | nil => intro i h; simp at h
  | cons y L ih =>
    intro i h j hj
    have hl := lb_cells_length y
    rw [lball_cons]
    cases i with
    | zero =>
      rw [List.getElem?_append_left (by omega)]
      simp [lbat]
    | succ i =>
      rw [List.getElem?_append_right (by omega), hl, show (i + 1) * 5 + j - 5 = i * 5 + j by omega, ih (by simpa using h) j hj]
      rfl
theorem lball_set {L : List LB} : ∀ {i : Nat}, i < L.length → ∀ (j : Nat) (u : Value) (y : LB), j < 5 → y.cells = (lbat L i).cells.set j u → (lball L).set (i * 5 + j) u = lball (L.set i y) := by
  induction L with
  | nil => intro i h; simp at h
  | cons x L ih =>
    intro i h j u y hj hy
    have hl := lb_cells_length x
    rw [lball_cons]
    cases i with
    | zero =>
      rw [List.set_append_left _ _ (by omega), List.set_cons_zero, lball_cons, hy]
      simp [lbat]
    | succ i =>
      rw [List.set_append_right _ _ (by omega), hl, show (i + 1) * 5 + j - 5 = i * 5 + j by omega, List.set_cons_succ, lball_cons, ih (by simpa using h) j u y hj hy]
theorem lbat_set_same {L : List LB} {i : Nat} (h : i < L.length) (y : LB) : lbat (L.set i y) i = y := by
  rw [lbat_get (by simpa using h)]; simp
theorem lbat_set_ne {L : List LB} {i j : Nat} (h : j ≠ i) (y : LB) : lbat (L.set i y) j = lbat L j := by
  unfold lbat
  rw [List.getD_eq_getElem?_getD, List.getD_eq_getElem?_getD, List.getElem?_set_ne (by omega)]
theorem lb_one (x : LB) : ∀ u ∈ x.cells, u.oneCell' = true := by
  intro u hu
  simp [LB.cells] at hu
  rcases hu with rfl | rfl | rfl | rfl | rfl <;> rfl

theorem info_lb : (Try.prog.info? 99).map (fun i => (i.zero, i.size, i.bytes)) = some (some (.agg #[.int .i64 0, .int .i64 0, .int .i64 0, .int .i64 0, .slice none 0 0]), 5, 56) := by kernel_rfl
theorem underlying_lbs : Try.prog.underlying 44 = some (.slice 99) := by kernel_rfl

section
variable {w : World}
/-- append of one block. -/
theorem wpList_appLB {ops : Array Oper} {rest : List Oper} {o : Oper} {a : Act} {Q : Exit → Act → World → Prop} (hgd : o.guard = none) (s x : Operand)
    (ho : o.op = .call { callee := .builtin .append, args := #[s, x], argTypes := #[ (44 : Nat) , (44 : Nat) ] })
    (base : Nat) (v : Value) (n : Nat) (xs : List Value) (hs : a.eval s = v) (hown : w.ownsRow base 99 5 v n xs) (b c : Nat) (y : LB) (fr : Nat × Nat) (hx : a.eval x = .slice (some ⟨b, 0, none⟩) 1 c)
    (hb : w.heap[b]? = some (.cells #[.int .i64 (y.a : Nat), .int .i64 y.k, .int .i64 y.s, .int .i64 y.m, .slice y.wa y.wl y.wc] 99 fr)) (hn : n ≤ 1000000000) (hbase : base ≤ w.heap.size)
    (h : ∀ g cap w', w'.ownsRow base 99 5 (.slice (some ⟨g, 0, none⟩) (n + 1) cap) (n + 1) (xs ++ y.cells) → Keeps (fun k => v.ownBlock = some k) w w' → wpList Try.prog ops Q rest (a.put o.dst (.slice (some ⟨g, 0, none⟩) (n + 1) cap)) w') : wpList Try.prog ops Q (o :: rest) a w := by
  obtain ⟨i3, hi3, hy0, hy1, hy2⟩ := info_parts info_lb
  refine wpList_append_lies w hgd s x 44 ho base 99 i3 _ 5 56 underlying_lbs hi3 hy0 hy1 hy2 (by rfl) (by omega) v n xs hs hown ⟨b, 0, none⟩ 1 c y.cells hx rfl
    (World.news_of_block hb) (lb_one y) (by omega) (by unfold maxLen; omega) (by omega) hbase _ rfl ?_
  intro g cap w' hO hG _ _
  exact h g cap w' hO (grownBy_keeps hG)
/-- The cells of the i-th block. -/
theorem lrow_at {base : Nat} {al : Option Addr} {n cl : Nat} {L : List LB} (h : w.ownsRow base 99 5 (.slice al n cl) L.length (lball L)) {i : Nat} (hi : i < L.length) : ∃ b, al = some ⟨b, 0, none⟩ ∧ n = L.length ∧ b < w.heap.size ∧ base ≤ b ∧
    w.cell? ⟨b, i * 5, none⟩ = some (.int .i64 ((lbat L i).a : Nat)) ∧ w.cell? ⟨b, i * 5 + 1, none⟩ = some (.int .i64 (lbat L i).k) ∧ w.cell? ⟨b, i * 5 + 2, none⟩ = some (.int .i64 (lbat L i).s) ∧ w.cell? ⟨b, i * 5 + 3, none⟩ = some (.int .i64 (lbat L i).m) ∧ w.cell? ⟨b, i * 5 + 4, none⟩ = some (.slice (lbat L i).wa (lbat L i).wl (lbat L i).wc) ∧ ∀ j, w.frozen? ⟨b, j, none⟩ = false := by
  obtain ⟨b, c, e, hb1, hb2⟩ := h.form (by omega)
  injection e with e1 e2 e3
  subst e1
  subst e2
  have hc : ∀ j, j < 5 → w.cell? ⟨b, i * 5 + j, none⟩ = (lbat L i).cells[j]? := by
    intro j hj
    rw [← lball_at hi j hj]
    exact World.ownsRow.cellAt h (i * 5 + j) (by omega)
  exact ⟨b, rfl, rfl, hb2, hb1, hc 0 (by omega), hc 1 (by omega), hc 2 (by omega), hc 3 (by omega), hc 4 (by omega), fun j => World.ownsRow.frozenAt h j⟩
/-- A store into the i-th block. -/
theorem lrow_set {base b n cl : Nat} {L : List LB} (h : w.ownsRow base 99 5 (.slice (some ⟨b, 0, none⟩) n cl) L.length (lball L)) {i : Nat} (hi : i < L.length) (j : Nat) (hj : j < 5) (u : Value) (y : LB) (hy : y.cells = (lbat L i).cells.set j u) :
    (w.setCell ⟨b, i * 5 + j, none⟩ u).ownsRow base 99 5 (.slice (some ⟨b, 0, none⟩) n cl) (L.set i y).length (lball (L.set i y)) ∧ Keeps (fun k => k = b) w (w.setCell ⟨b, i * 5 + j, none⟩ u) := by
  obtain ⟨_, _, e, _, _⟩ := h.form (by omega)
  injection e with e1 e2 e3
  subst e2
  have := World.ownsRow.stored h (i * 5 + j) u
  rw [lball_set hi j u y hj hy] at this
  rw [List.length_set]
  exact ⟨this.1, (Keeps.refl (fun k => k = b) w).setCell (p := ⟨b, i * 5 + j, none⟩) (fun _ => rfl) u⟩
end

/-- A raw block. -/
structure RawE where
  kd : Int
  sz : Int
  ms : Int
  wa : Option Addr
  wl : Nat
  wc : Nat
  ws : Nat → Int
def RawArg (w : World) (a : Option Addr) (len : Nat) (R : Nat → RawE) : Prop :=
  len = 0 ∨ ∃ b o, a = some ⟨b, o, none⟩ ∧ ∀ i, i < len → w.cell? ⟨b, o + i * 4, none⟩ = some (.int .i64 (R i).kd) ∧ w.cell? ⟨b, o + i * 4 + 1, none⟩ = some (.int .i64 (R i).sz) ∧ w.cell? ⟨b, o + i * 4 + 2, none⟩ = some (.int .i64 (R i).ms) ∧ w.cell? ⟨b, o + i * 4 + 3, none⟩ = some (.slice (R i).wa (R i).wl (R i).wc) ∧
    Arg w (R i).wa (R i).wl (fun t => .int .i64 ((R i).ws t)) ∧ ∀ t, t < (R i).wl → -9223372036854775808 ≤ (R i).ws t
theorem RawArg.keep {w w' : World} {a : Option Addr} {len : Nat} {R : Nat → RawE} (h : RawArg w a len R) (hk : Keeps (fun _ => False) w w') : RawArg w' a len R := by
  rcases h with h | ⟨b, o, h1, h2⟩
  · exact .inl h
  · exact .inr ⟨b, o, h1, fun i hi => by
      obtain ⟨q0, q1, q2, q3, q4, q5⟩ := h2 i hi
      exact ⟨hk.cell0 q0, hk.cell0 q1, hk.cell0 q2, hk.cell0 q3, q4.keep hk, q5⟩⟩
theorem RawArg.get {w : World} {a : Option Addr} {len : Nat} {R : Nat → RawE} (h : RawArg w a len R) {i : Nat} (hi : i < len) : ∃ b o, a = some ⟨b, o, none⟩ ∧ w.cell? ⟨b, o + i * 4, none⟩ = some (.int .i64 (R i).kd) ∧ w.cell? ⟨b, o + i * 4 + 1, none⟩ = some (.int .i64 (R i).sz) ∧ w.cell? ⟨b, o + i * 4 + 2, none⟩ = some (.int .i64 (R i).ms) ∧ w.cell? ⟨b, o + i * 4 + 3, none⟩ = some (.slice (R i).wa (R i).wl (R i).wc) ∧
    Arg w (R i).wa (R i).wl (fun t => .int .i64 ((R i).ws t)) ∧ ∀ t, t < (R i).wl → -9223372036854775808 ≤ (R i).ws t := by
  rcases h with h | ⟨b, o, h1, h2⟩
  · omega
  · exact ⟨b, o, h1, h2 i hi⟩

/-- The heap that raw blocks make. -/
def HS.stp (H : HS) (x : Int) : HS := match H.alloc x with
  | some r => r.2
  | none => H
def mkH (R : Nat → RawE) : Nat → HS
  | 0 => HS.new 8192
  | k + 1 => (mkH R k).stp (((R k).wl : Int) + 1)
def mkA (R : Nat → RawE) (k : Nat) : Nat := match (mkH R k).alloc (((R k).wl : Int) + 1) with
  | some r => r.1
  | none => 0
/-- What the raw blocks are allowed to be: few, and small. -/
def Few (R : Nat → RawE) (len : Nat) : Prop := len ≤ 40 ∧ ∀ i, i < len → (R i).wl ≤ 100
theorem mkH_all {R : Nat → RawE} {len : Nat} (hF : Few R len) : ∀ k, k ≤ len → (mkH R k).Wf ∧ (mkH R k).n = 128 ∧ (mkH R k).Front (1 + 2 * k) ∧ ∀ j, j < k → ∃ r, (mkH R j).alloc (((R j).wl : Int) + 1) = some (mkA R j, mkH R (j + 1)) ∧ HS.Adds (mkH R j) (mkH R (j + 1)) (mkA R j) r ∧ (R j).wl + 1 ≤ r
  | 0, _ => ⟨new_wf (by omega) (by omega), rfl, fun a ha => by
      obtain ⟨j, hj, _⟩ := ((HS.new_listed (x := 8192) (L := id) (by omega) (new_wf (by omega) (by omega))).rooms a).1 ha
      omega, fun j hj => by omega⟩
  | k + 1, hk => by
    obtain ⟨h1, h2, h3, h4⟩ := mkH_all hF k (by omega)
    have hl := hF.2 k (by omega)
    have hlen := hF.1
    have hsp : HS.spansOf ((R k).wl + 1) ≤ 2 := by unfold HS.spansOf; split <;> omega
    have es : (((R k).wl : Int) + 1).toNat = (R k).wl + 1 := by omega
    obtain ⟨a, H1, ha, hadd, hfr⟩ := h1.alloc_front h3 (by omega) (x := ((R k).wl : Int) + 1) (by omega) (by omega) (by rw [es, h2]; omega)
    have e1 : mkH R (k + 1) = H1 := by show HS.stp _ _ = _; unfold HS.stp; rw [ha]
    have e2 : mkA R k = a := by unfold mkA; rw [ha]
    rw [es] at hadd hfr
    refine ⟨by rw [e1]; exact hadd.wf, by rw [e1]; exact hadd.n.trans h2, by rw [e1]; exact hfr.mono (by omega), fun j hj => ?_⟩
    by_cases e : j = k
    · subst e
      exact ⟨HS.roomOf ((R j).wl + 1), by rw [e1, e2]; exact ha, by rw [e1, e2]; exact hadd, HS.roomOf_ge⟩
    · exact h4 j (by omega)
end Go.Proofs.Ytnbiofcfphpikaa
