/-
  The document's heap: the walks of New and Alloc.
-/
import Derived.Test.YtnflgjhgegggcaaRef4
namespace Go.Proofs.Ytnflgjhgegggcaa
open Go.RowKit

section
variable {w0 w : World} {R : Nat → Prop} {rb : Nat} {H H' : HS}

theorem rnew_no (w : World) (x : Int) (h : x < 128 ∨ 1048576 < x) :
    Calls Try.prog 25 #[.int .i64 x] w fun e w' => e = .returned (.tuple #[.pointer none, .bool false]) ∧ w = w' := by
  rcases h with h | h
  · have d1 : decide (x < 128) = true := decide_eq_true h
    go_enter Try.func25, Try.ntmps25
    go_wp2
    go_ret2
    exact ⟨rfl, rfl⟩
  · have d1 : decide (x < 128) = false := decide_eq_false (by omega)
    have d2 : decide ((1048576 : Int) < x) = true := decide_eq_true h
    go_enter Try.func25, Try.ntmps25
    go_wp2
    go_ret2
    exact ⟨rfl, rfl⟩
theorem new_blocks {x : Nat} (h1 : 128 ≤ x) (h2 : x ≤ 1048576) : (HS.new x).blocks = [] := ((HS.new_listed (L := id) h1 (new_wf h1 h2)).rest_done).2
theorem rnew_yes (w0 w : World) (h0 : w0.heap.size ≤ w.heap.size) (R : Nat → Prop) (hR : ∀ k, R k → k < w.heap.size) (x : Nat) (h1 : 128 ≤ x) (h2 : x ≤ 1048576) :
    Calls Try.prog 25 #[.int .i64 x] w fun e w' => ∃ rb, e = .returned (.tuple #[.pointer (some ⟨rb, 0, none⟩), .bool true]) ∧ Hid (RefA w0 w' R rb (HS.new x) ∧ Keeps (fun _ => False) w w') := by
  obtain ⟨n, hn⟩ : ∃ n, n = x / 64 := ⟨_, rfl⟩
  have d1 : decide ((x : Int) < 128) = false := decide_eq_false (by omega)
  have d2 : decide ((1048576 : Int) < (x : Int)) = false := decide_eq_false (by omega)
  have hdiv : (x : Int) / 64 = (n : Int) := by omega
  have hdiv2 : (x : Int).tdiv 64 = (n : Int) := by rw [Int.tdiv_eq_ediv_of_nonneg (by omega)]; omega
  have HF : Hid (∀ w' rb, w'.heap[rb]? = some (.cells #[.int .i64 (n : Nat), .slice none 0 0] 45 (0, 0)) → Keeps (fun _ => False) w w' → rb = w.heap.size → RefA w0 w' R rb (HS.new x) ∧ Keeps (fun _ => False) w w') := by
    intro w' rb hc hk e
    refine ⟨⟨.slice none 0 0, [], ⟨?_, World.ownsRow_nil _ _ _ _, fun x hx => (by cases hx), ?_, fun x hx => (by cases hx), List.nodup_nil⟩, fun k hf => ?_, fun k h => Nat.lt_of_lt_of_le (hR k h) hk.size⟩, hk⟩
    · rw [hc, hn]; rfl
    · rw [new_blocks h1 h2]; rfl
    · rcases hf with rfl | e' | ⟨x, hx, _⟩
      · exact ⟨by omega, fun h => by have := hR k h; omega⟩
      · simp [Value.ownBlock] at e'
      · cases hx
  clear hn h0 hR
  go_enter Try.func25, Try.ntmps25
  go_wp2
  go_ret2
  exact ⟨_, rfl, HF.out _ _ (heap_alloc_new w _) ((Keeps.refl _ _).alloc _) rfl⟩

theorem RefA.ralloc_bad (h : RefA w0 w R rb H) (x : Int) (hx : x < 1 ∨ 16448 < x) :
    Calls Try.prog 26 #[.pointer (some ⟨rb, 0, none⟩), .int .i64 x] w fun e w' => RPost w0 w R rb H (H.alloc x) e w' := by
  have e : H.alloc x = none := by unfold HS.alloc; rw [if_pos hx]
  have HF : Hid (∀ e w', RetPair 0 false e → w' = w → RPost w0 w R rb H (H.alloc x) e w') := by
    intro e' w' h1 h2
    subst h2
    rw [e]
    exact ⟨h1, h, Keeps.refl _ _⟩
  clear h e
  rcases hx with h | h
  · have d1 : decide (x < 1) = true := decide_eq_true h
    go_enter Try.func26, Try.ntmps26
    go_wp2
    go_ret2
    exact HF.out _ _ rfl rfl
  · have d1 : decide (x < 1) = false := decide_eq_false (by omega)
    have d2 : decide ((16448 : Int) < x) = true := decide_eq_true h
    go_enter Try.func26, Try.ntmps26
    go_wp2
    go_ret2
    exact HF.out _ _ rfl rfl
/-- row, with its answer named. -/
theorem RefA.rrow' (h : RefA w0 w R rb H) (hW : H.Wf) (m : Nat) (hm : 2 ≤ m) (hm' : m ≤ 257) :
    Calls Try.prog 41 #[.pointer (some ⟨rb, 0, none⟩), .int .i64 m] w fun e w' => ∃ v t, e = .returned (.tuple #[.int .i64 v, .bool t]) ∧ Hid (RPost w0 w R rb H (H.allocRun m) (.returned (.tuple #[.int .i64 v, .bool t])) w') := by
  refine (h.rrow hW m hm hm').mono ?_
  intro e w' h
  cases hr : H.allocRun m with
  | none =>
    rw [hr] at h
    obtain ⟨h1, h2⟩ := h
    unfold RetPair at h1
    subst h1
    exact ⟨_, _, rfl, rfl, h2⟩
  | some p =>
    rw [hr] at h
    obtain ⟨h1, h2⟩ := h
    unfold RetPair at h1
    subst h1
    exact ⟨_, _, rfl, rfl, h2⟩
theorem RefA.ralloc_great (h : RefA w0 w R rb H) (hW : H.Wf) (x : Nat) (h1 : 64 < x) (h2 : x ≤ 16448) :
    Calls Try.prog 26 #[.pointer (some ⟨rb, 0, none⟩), .int .i64 x] w fun e w' => RPost w0 w R rb H (H.alloc x) e w' := by
  rw [HS.alloc_run_eq h1 h2]
  obtain ⟨m, hm⟩ : ∃ m, m = (x + 63) / 64 := ⟨_, rfl⟩
  have HR := Lib.hid (h.rrow' hW m (by omega) (by omega))
  rw [← hm]
  have d1 : decide ((x : Int) < 1) = false := decide_eq_false (by omega)
  have d2 : decide ((16448 : Int) < (x : Int)) = false := decide_eq_false (by omega)
  have d3 : decide ((64 : Int) < (x : Int)) = true := decide_eq_true (by omega)
  have hdiv : ((x : Int) + 63) / 64 = (m : Int) := by omega
  have hdiv2 : ((x : Int) + 63).tdiv 64 = (m : Int) := by rw [Int.tdiv_eq_ediv_of_nonneg (by omega)]; omega
  clear h hW hm
  go_enter Try.func26, Try.ntmps26
  go_wp2_with fail
  refine HR.out.mono ?_
  rintro e w2 ⟨v, t, rfl, hp⟩
  go_wp2
  go_ret2
  exact hp.out

set_option maxRecDepth 100000 in
set_option maxHeartbeats 8000000 in
theorem RefA.ralloc_small (h : RefA w0 w R rb H) (hW : H.Wf) (x : Nat) (h1 : 1 ≤ x) (h2 : x ≤ 64) :
    Calls Try.prog 26 #[.pointer (some ⟨rb, 0, none⟩), .int .i64 x] w fun e w' => RPost w0 w R rb H (H.alloc x) e w' := by
  rw [HS.alloc_small_eq h1 h2]
  have HA := Lib.hid h
  have HW := Lib.hid hW
  have hnb := hW.nb
  have hn2 := hW.n2
  have c0 := h.c0
  have HCL := Lib.hid (HS.cl_classOf x h2).1
  have hd1 : decide ((x : Int) < 1) = false := decide_eq_false (by omega)
  have hd2 : decide ((16448 : Int) < (x : Int)) = false := decide_eq_false (by omega)
  have hd3 : decide ((64 : Int) < (x : Int)) = false := decide_eq_false (by omega)
  have HADD : Hid (∀ a H', H.allocSmall (HS.classOf x) = some (a, H') → HS.Adds H H' a (HS.classOf x)) := fun a H' e => small_adds' hW h1 h2 e
  have HST : 2 ≤ HS.classOf x := by have := (HS.cl_classOf x h2); unfold HS.classOf; (repeat' split) <;> omega
  clear h hW
  obtain ⟨cx, HCX⟩ : ∃ cx, Hid (cx = HS.classOf x) := ⟨_, rfl⟩
  rw [← HCX.out] at HADD HCL HST
  rw [← HCX.out]
  generalize hn : H.n = n at *
  have HN := Lib.hid hn
  clear hn
  go_enter Try.func26, Try.ntmps26
  go_wp2
  go_loop [6] (fun c => ∃ k : Nat, c = .int .i64 k ∧ Hid (HS.Cl (k : Int)) ∧ k ≤ cx) (fun c => 64 - (intOf c).toNat)
  case atStart => exact ⟨2, rfl, .inl rfl, HST⟩
  case round =>
    obtain ⟨k, rfl, hk, hkle⟩ := hrel
    have hp := HS.cl_pos hk.out
    obtain ⟨hp1, hp2, hp3, hp4, hp5⟩ := hp
    by_cases hlt : k < x
    · have hs := class_step hk.out hlt h2 (by rw [← HCX.out]; exact hkle)
      rw [← HCX.out] at hs
      have HS1 := Lib.hid hs.1
      have hs2 := hs.2
      have hk32 := HS.cl_pos hs.1
      have hk32' := hk32.2.1
      clear hs hk32
      go_wp2
      go_round
      case rel => exact ⟨2 * k, by go_num, HS1.out, hs2⟩
      case measure => simp [intOf]; omega
    · have hc := class_done hk.out hlt (by rw [← HCX.out]; exact hkle)
      rw [← HCX.out] at hc
      subst hc
      obtain ⟨c, rfl⟩ : ∃ c, c = cx := ⟨_, rfl⟩
      clear hkle HCL HST HCX
      have HOUT : Hid ((∀ t, t < n → H.hasRoom c t = false) → (∀ t, 1 ≤ t → t < n → H.cls t ≠ 0) → ∀ e w', RetPair 0 false e → RefA w0 w' R rb H → Keeps (fun _ => False) w w' → RPost w0 w R rb H (H.allocSmall c) e w') := by
        rw [← HN.out]
        intro hno hf e w' h1 h2 h3
        rw [HS.alloc_out HW.out hno hf]
        exact ⟨h1, h2, h3⟩
      have HHIT : Hid (∀ s k, s < n → (∀ t, t < s → H.hasRoom c t = false) → H.cls s = (c : Int) → k < 64 / c → H.room (64 * s + k * c) = 0 → (∀ j, j < k → H.room (64 * s + j * c) ≠ 0) → ∃ H', HS.Adds H H' (64 * s + k * c) c ∧ ∀ e w', RetPair ((64 * s + k * c : Nat) : Int) true e → RefA w0 w' R rb H' → Keeps (fun k => k = rb) w w' → RPost w0 w R rb H (H.allocSmall c) e w') := by
        rw [← HN.out]
        intro s k hs hp hc hk' h0 hj
        obtain ⟨H', e⟩ := HS.alloc_hit HW.out hk.out hs hp hc hk' h0 hj
        refine ⟨H', HADD.out _ _ e, fun e' w' h1 h2 h3 => ?_⟩
        rw [e]
        exact ⟨h1, h2, h3⟩
      have HNEW : Hid (∀ s, s < n → (∀ t, t < n → H.hasRoom c t = false) → H.cls s = 0 → (∀ t, 1 ≤ t → t < s → H.cls t ≠ 0) → ∃ H', HS.Adds H H' (64 * s) c ∧ ∀ e w', RetPair ((64 * s : Nat) : Int) true e → RefA w0 w' R rb H' → Keeps (fun k => k = rb) w w' → RPost w0 w R rb H (H.allocSmall c) e w') := by
        rw [← HN.out]
        intro s hs hno hc hf
        obtain ⟨H', e⟩ := HS.alloc_new HW.out hs hno hc hf
        refine ⟨H', HADD.out _ _ e, fun e' w' h1 h2 h3 => ?_⟩
        rw [e]
        exact ⟨h1, h2, h3⟩
      have HZ0 : Hid (H.hasRoom c 0 = false) := HS.hasRoom_zero HW.out c
      have HNO : Hid (∀ s, s < n → (H.cls s = (c : Int) → ∀ k, k < 64 / c → H.room (64 * s + k * c) ≠ 0) → H.hasRoom c s = false) := by
        rw [← HN.out]
        intro s hs hh
        exact HS.hasRoom_no HW.out hs hk.out hh
      have HRC : Hid (∀ s, H.rcls s = (c : Int) ↔ H.cls s = (c : Int)) := fun s => HS.rcls_class hp1
      have HK0 : Hid (Keeps (fun _ => False) w w) := Keeps.refl _ _
      go_wp2
      go_loopw [7] (fun i wr => ∃ s : Nat, 1 ≤ s ∧ s ≤ n ∧ i = .int .i64 s ∧ Hid (Keeps (fun _ => False) w wr) ∧ Hid (∀ t, t < s → H.hasRoom c t = false)) (fun i _ => n - (intOf i).toNat)
      case atStart => exact ⟨1, Nat.le_refl _, by omega, rfl, HK0, fun t ht => by rw [show t = 0 by omega]; exact HZ0.out⟩
      case round =>
        clear HK0
        obtain ⟨s, hs1, hs, rfl, hK, hP⟩ := hrel
        have c0' := hK.out.cell0 c0
        by_cases hlt2 : s < n
        · have dk : decide (s < n) = true := decide_eq_true hlt2
          have HC := Lib.hid ((HA.out.keep0 hK.out).rclass HW.out s hs1 (by rw [HN.out]; exact hlt2))
          by_cases hz : H.cls s = (c : Int)
          · rw [(HRC.out s).2 hz] at HC
            have HZ := Lib.hid hz
            clear hz
            go_wp2_with fail
            refine HC.out.mono ?_
            rintro e w2 ⟨rfl, hk2⟩
            have HK2 : Hid (Keeps (fun _ => False) w w2) := hK.out.trans hk2 (fun _ _ h => h)
            clear hk2 c0'
            go_wp2
            have hmul : Hid (64 / c * c = 64) := by
              show _ = _
              rcases HS.cl_cases hk.out with e | e | e | e | e | e <;> subst e <;> rfl
            generalize hM : 64 / c = M at *
            have HM := Lib.hid hM
            clear hM
            go_loopw [8] (fun i wr => ∃ j q : Nat, j ≤ M ∧ i = .int .i64 q ∧ Hid (q = 64 * s + j * c) ∧ Hid (Keeps (fun _ => False) w wr) ∧ Hid (∀ i, i < j → H.room (64 * s + i * c) ≠ 0)) (fun i _ => 64 * s + 64 - (intOf i).toNat)
            case atStart => exact ⟨0, 64 * s, Nat.zero_le _, by go_num, by show _ = _; simp, HK2, fun i hi => by omega⟩
            case round =>
              clear hK HK2
              obtain ⟨j, q, hj, rfl, hq, hK, hQ⟩ := hrel
              have hjc : Hid (j * c ≤ 64 ∧ (j < M → j * c + c ≤ 64) ∧ (j = M → j * c = 64)) := by
                have := hmul.out
                refine ⟨?_, fun h => ?_, fun h => by rw [h]; exact this⟩
                · have h3 : j * c ≤ M * c := Nat.mul_le_mul_right _ hj
                  omega
                · have h3 : (j + 1) * c ≤ M * c := Nat.mul_le_mul_right _ h
                  rw [Nat.succ_mul] at h3
                  omega
              have hq2 := hq.out
              have hjc1 := hjc.out.1
              have hjc2 := hjc.out.2.1
              have hjc3 := hjc.out.2.2
              generalize hjm : j * c = jc at *
              have hqb : q ≤ 1048640 := by omega
              by_cases hjM : j < M
              · have hqlt : q + c ≤ 64 * s + 64 := by have := hjc2 hjM; omega
                have dq : decide ((q : Int) < 64 * (s : Int) + 64) = true := decide_eq_true (by omega)
                have HFD := Lib.hid ((HA.out.keep0 hK.out).rfind HW.out (q : Int))
                rw [HS.roomI_nat] at HFD
                by_cases hr : H.room q = 0
                · obtain ⟨H', hAd, hF⟩ := HHIT.out s j hlt2 hP.out HZ.out hjM (by rw [hjm, ← hq2]; exact hr) hQ.out
                  rw [hjm, ← hq2] at hAd
                  rw [hjm, ← hq2] at hF
                  have HF := Lib.hid hF
                  have HAd := Lib.hid hAd
                  have hfd : Hid (Calls Try.prog 43 #[.pointer (some ⟨rb, 0, none⟩), .int .i64 q] wr fun e w' => e = .returned (.int .i64 (-1)) ∧ ∃ q, w' = wr.drewN q) := by
                    refine HFD.out.mono ?_
                    rintro e w' ⟨⟨i, rfl, h1, -⟩, h3⟩
                    exact ⟨by rw [h1 hr], h3⟩
                  clear hq2 hjc2 hjc3 hjm hAd hF HHIT HOUT HNEW HNO hr HFD
                  go_wp2_with fail
                  refine hfd.out.mono ?_
                  rintro e w3 ⟨rfl, q3, rfl⟩
                  have HK3 : Hid (Keeps (fun _ => False) w (wr.drewN q3)) := hK.out.drewN q3
                  have HAD := Lib.hid ((HA.out.keep0 HK3.out).radd HW.out HAd.out)
                  go_wp2_with fail
                  refine HAD.out.mono ?_
                  rintro e w4 ⟨rfl, h4⟩
                  go_wp2
                  go_ret2
                  exact HF.out _ _ rfl h4.out.1 ((HK3.out.mono (fun _ _ h => h.elim)).trans h4.out.2 (fun _ _ h => h))
                · have hfd : Hid (Calls Try.prog 43 #[.pointer (some ⟨rb, 0, none⟩), .int .i64 q] wr fun e w' => ∃ i : Int, e = .returned (.int .i64 i) ∧ decide (i < 0) = false ∧ ∃ q, w' = wr.drewN q) := by
                    refine HFD.out.mono ?_
                    rintro e w' ⟨⟨i, rfl, -, h2⟩, h3⟩
                    exact ⟨i, rfl, decide_eq_false (by have := h2 hr; omega), h3⟩
                  have HQ2 : Hid (∀ i, i < j + 1 → H.room (64 * s + i * c) ≠ 0) := by
                    intro i hi
                    by_cases e : i = j
                    · subst e; rw [hjm, ← hq2]; exact hr
                    · exact hQ.out i (by omega)
                  have HQN : Hid (q + c = 64 * s + (j + 1) * c) := by
                    show _ = _
                    have e : (j + 1) * c = j * c + c := Nat.succ_mul j c
                    rw [e, hjm]; omega
                  clear hq2 hjc2 hjc3 hjm HHIT HOUT HNEW HNO hr HFD
                  go_wp2_with fail
                  refine hfd.out.mono ?_
                  rintro e w3 ⟨i3, rfl, hi3, q3, rfl⟩
                  have HK3 : Hid (Keeps (fun _ => False) w (wr.drewN q3)) := hK.out.drewN q3
                  go_wp2
                  go_roundw
                  case rel => exact ⟨j + 1, q + c, by omega, by go_num, HQN, HK3, HQ2⟩
                  case measure => simp [intOf]; omega
              · have hjM' : j = M := by omega
                have dq : decide ((q : Int) < 64 * (s : Int) + 64) = false := decide_eq_false (by have := hjc3 hjM'; omega)
                have HP2 : Hid (∀ t, t < s + 1 → H.hasRoom c t = false) := by
                  intro t ht
                  by_cases e : t = s
                  · subst e
                    exact HNO.out t hlt2 fun _ k hk' => hQ.out k (by omega)
                  · exact hP.out t (by omega)
                clear hq2 hjc2 hjc3 hjm HHIT HOUT HNEW HNO
                go_wp2
                go_roundw
                case rel => exact ⟨s + 1, by omega, by omega, by go_num, hK, HP2⟩
                case measure => simp [intOf]; omega
          · have hrz : (H.rcls s == (c : Int)) = false := beq_eq_false_iff_ne.2 (fun e => hz ((HRC.out s).1 e))
            have HP2 : Hid (∀ t, t < s + 1 → H.hasRoom c t = false) := by
              intro t ht
              by_cases e : t = s
              · subst e
                exact HNO.out t hlt2 fun e => absurd e hz
              · exact hP.out t (by omega)
            generalize H.rcls s = rc at *
            clear hz hP HHIT HOUT HNEW
            go_wp2_with fail
            refine HC.out.mono ?_
            rintro e w2 ⟨rfl, hk2⟩
            have HK2 : Hid (Keeps (fun _ => False) w w2) := hK.out.trans hk2 (fun _ _ h => h)
            clear hk2
            go_wp2
            go_roundw
            case rel => exact ⟨s + 1, by omega, by omega, by go_num, HK2, HP2⟩
            case measure => simp [intOf]; omega
        · obtain rfl : n = s := by omega
          have dk : decide (n < n) = false := by simp
          clear HHIT
          have hK0 := hK
          go_wp2
          go_loopw [9] (fun i wr => ∃ s : Nat, 1 ≤ s ∧ s ≤ n ∧ i = .int .i64 s ∧ Hid (Keeps (fun _ => False) w wr) ∧ Hid (∀ t, 1 ≤ t → t < s → H.cls t ≠ 0)) (fun i _ => n - (intOf i).toNat)
          case atStart => exact ⟨1, Nat.le_refl _, by omega, rfl, hK0, fun t h1 h2 => by omega⟩
          case round =>
            clear hK hK0 c0'
            obtain ⟨s, hs1, hs, rfl, hK, hF⟩ := hrel
            have c0' := hK.out.cell0 c0
            by_cases hlt2 : s < n
            · have dk : decide (s < n) = true := decide_eq_true hlt2
              have HC := Lib.hid ((HA.out.keep0 hK.out).rclass HW.out s hs1 (by rw [HN.out]; exact hlt2))
              by_cases hz : H.cls s = 0
              · rw [show H.rcls s = 0 from HS.rcls_zero.2 hz] at HC
                obtain ⟨H', hAd, hF'⟩ := HNEW.out s hlt2 hP.out hz hF.out
                obtain ⟨a, ha⟩ : ∃ a, a = 64 * s := ⟨_, rfl⟩
                have ea : 64 * (s : Int) = (a : Int) := by omega
                rw [← ha] at hAd
                rw [← ha] at hF'
                have HF := Lib.hid hF'
                have HAd := Lib.hid hAd
                have hba : a ≤ 1048576 := by omega
                clear hz hAd hF' HNEW HOUT HNO ha
                go_wp2_with fail
                refine HC.out.mono ?_
                rintro e w2 ⟨rfl, hk2⟩
                have HK2 : Hid (Keeps (fun _ => False) w w2) := hK.out.trans hk2 (fun _ _ h => h)
                clear hk2
                have HAD := Lib.hid ((HA.out.keep0 HK2.out).radd HW.out HAd.out)
                go_wp2_with fail
                refine HAD.out.mono ?_
                rintro e w4 ⟨rfl, h4⟩
                go_wp2
                go_ret2
                exact HF.out _ _ rfl h4.out.1 ((HK2.out.mono (fun _ _ h => h.elim)).trans h4.out.2 (fun _ _ h => h))
              · have hrz : (H.rcls s == 0) = false := beq_eq_false_iff_ne.2 (fun e => hz (HS.rcls_zero.1 e))
                have HF2 : Hid (∀ t, 1 ≤ t → t < s + 1 → H.cls t ≠ 0) := by
                  intro t h1 h2
                  by_cases e : t = s
                  · subst e; exact hz
                  · exact hF.out t h1 (by omega)
                generalize H.rcls s = rc at *
                clear hz hF HNEW HOUT HNO
                go_wp2_with fail
                refine HC.out.mono ?_
                rintro e w2 ⟨rfl, hk2⟩
                have HK2 : Hid (Keeps (fun _ => False) w w2) := hK.out.trans hk2 (fun _ _ h => h)
                clear hk2
                go_wp2
                go_roundw
                case rel => exact ⟨s + 1, by omega, by omega, by go_num, HK2, HF2⟩
                case measure => simp [intOf]; omega
            · obtain rfl : n = s := by omega
              have dk : decide (n < n) = false := by simp
              have HF := Lib.hid (HOUT.out hP.out hF.out)
              clear HNEW HOUT HNO
              go_wp2
              go_ret2
              exact HF.out _ _ rfl (HA.out.keep0 hK.out) hK.out
theorem RefA.ralloc (h : RefA w0 w R rb H) (hW : H.Wf) (x : Int) :
    Calls Try.prog 26 #[.pointer (some ⟨rb, 0, none⟩), .int .i64 x] w fun e w' => RPost w0 w R rb H (H.alloc x) e w' := by
  by_cases hx : x < 1 ∨ 16448 < x
  · exact h.ralloc_bad x hx
  · obtain ⟨n, rfl⟩ : ∃ n : Nat, x = (n : Int) := ⟨x.toNat, by omega⟩
    by_cases hg : 64 < n
    · exact h.ralloc_great hW n hg (by omega)
    · exact h.ralloc_small hW n (by omega) (by omega)
end
end Go.Proofs.Ytnflgjhgegggcaa
