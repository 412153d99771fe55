/-
  The document's heap: the walks of Class, Find, Spans.
-/
import Derived.Test.YtnflgjhgegggcaaRef
import Derived.Test.YtnflgjhgegggcaaW7
namespace Go.Proofs.Ytnflgjhgegggcaa
open Go.RowKit

section
variable {w : World} {rb : Nat} {lv : Value} {L : List RB} {H : HS}

set_option maxRecDepth 100000 in
set_option maxHeartbeats 4000000 in
theorem rfind_calls (h : RefAt w rb lv L H) (hW : H.Wf) (x : Int) :
    Calls Try.prog 43 #[.pointer (some ⟨rb, 0, none⟩), .int .i64 x] w fun e w' => e = .returned (.int .i64 (RB.find L x)) ∧ ∃ q, w' = w.drewN q := by
  have hlen := h.len_le hW
  obtain ⟨al, cl, rfl, hcl⟩ := h.slice
  have c1 := h.c1
  have HA := Lib.hid h
  have HFN : Hid ((∀ i, i < L.length → (ra L i : Int) ≠ x) → RB.find L x = -1) := RB.find_no
  have HFY : Hid (∀ i, i < L.length → (ra L i : Int) = x → (∀ j, j < i → (ra L j : Int) ≠ x) → RB.find L x = i) := fun i hi he hj => RB.find_yes hi he hj
  have HL : Hid (L.length = L.length) := rfl
  clear h hW
  obtain ⟨n, HN⟩ : ∃ n, Hid (n = L.length) := ⟨_, rfl⟩
  rw [← HN.out] at HA HFN HFY hlen c1 hcl
  generalize RB.find L x = r at *
  go_enter Try.func43, Try.ntmps43
  go_wp2
  go_loopw [5] (fun i wr => ∃ k : Nat, k ≤ n ∧ i = .int .i64 k ∧ (∃ q, wr = w.drewN q) ∧ Hid (∀ j, j < k → (ra L j : Int) ≠ x)) (fun i _ => n - (intOf i).toNat)
  case atStart => exact ⟨0, Nat.zero_le _, rfl, ⟨0, rfl⟩, fun j hj => by omega⟩
  case round =>
    obtain ⟨k, hk, rfl, ⟨q, rfl⟩, hP⟩ := hrel
    by_cases hlt : k < n
    · have dk : decide (k < n) = true := decide_eq_true hlt
      obtain ⟨b, rfl, -, e1, -, -⟩ := HA.out.at_ (i := k) (by rw [← HN.out]; exact hlt)
      by_cases heq : (ra L k : Int) = x
      · have HR := Lib.hid (HFY.out k hlt heq hP.out)
        have dq : ((ra L k : Int) == x) = true := beq_iff_eq.2 heq
        generalize ra L k = y at *
        clear heq
        go_wp2
        go_ret
        exact ⟨by rw [HR.out]; rfl, _, rfl⟩
      · have dq : ((ra L k : Int) == x) = false := beq_eq_false_iff_ne.2 heq
        have HP2 : Hid (∀ j, j < k + 1 → (ra L j : Int) ≠ x) := by
          intro j hj
          by_cases e : j = k
          · subst e; exact heq
          · exact hP.out j (by omega)
        generalize ra L k = y at *
        clear heq hP
        go_wp2
        go_roundw
        case rel => exact ⟨k + 1, by omega, by go_num, ⟨_, rfl⟩, HP2⟩
        case measure => simp [intOf]; omega
    · obtain rfl : n = k := by omega
      have dk : decide (n < n) = false := by simp
      have HR := Lib.hid (HFN.out hP.out)
      go_wp2
      go_ret
      exact ⟨by rw [HR.out]; rfl, _, rfl⟩

set_option maxRecDepth 100000 in
set_option maxHeartbeats 4000000 in
theorem rclass_calls (h : RefAt w rb lv L H) (hW : H.Wf) (s : Nat) (hs1 : 1 ≤ s) (hs : s < H.n) :
    Calls Try.prog 42 #[.pointer (some ⟨rb, 0, none⟩), .int .i64 s] w fun e w' => e = .returned (.int .i64 (H.rcls s)) ∧ Keeps (fun _ => False) w w' := by
  have hlen := h.len_le hW
  obtain ⟨al, cl, rfl, hcl⟩ := h.slice
  have c1 := h.c1
  have HA := Lib.hid h
  have hnb := hW.nb
  have hs16 : s < 16384 := by omega
  have HIT : Hid (∀ i, i < L.length → ra L i < 64 * s + 64 → 64 * s < ra L i + rr L i → (64 < rr L i → H.rcls s = -1) ∧ (rr L i ≤ 64 → H.rcls s = (rr L i : Nat))) := by
    intro i hi h1 h2
    have := h.room_at hi
    rw [this] at h2 ⊢
    exact hW.hit (h.room_ne hW hi) h1 h2
  have HMS : Hid ((∀ i, i < L.length → ¬ (ra L i < 64 * s + 64 ∧ 64 * s < ra L i + rr L i)) → H.rcls s = 0) := by
    intro hno
    rw [HS.rcls_zero]
    refine hW.miss hs hs1 fun a ha => ?_
    obtain ⟨i, hi, rfl⟩ := (h.mem_iff a).1 ((hW.mem_blocks a).2 ha)
    have := hno i hi
    rw [h.room_at hi] at this
    exact this
  have HB : Hid (∀ i, i < L.length → ra L i ≤ 1048576 ∧ rr L i ≤ 1048576) := by
    intro i hi
    have h1 := hW.inside (h.room_ne hW hi)
    rw [h.room_at hi]
    exact ⟨by omega, h1.2.2.2.2⟩
  clear h hW hs hnb
  obtain ⟨n, HN⟩ : ∃ n, Hid (n = L.length) := ⟨_, rfl⟩
  rw [← HN.out] at HA HIT HMS HB hlen c1 hcl
  generalize H.rcls s = rc at *
  have HK0 : Hid (Keeps (fun _ => False) w w) := Keeps.refl _ _
  go_enter Try.func42, Try.ntmps42
  go_wp2
  go_loopw [5] (fun i wr => ∃ k : Nat, k ≤ n ∧ i = .int .i64 k ∧ Hid (Keeps (fun _ => False) w wr) ∧ Hid (∀ j, j < k → ¬ (ra L j < 64 * s + 64 ∧ 64 * s < ra L j + rr L j))) (fun i _ => n - (intOf i).toNat)
  case atStart => exact ⟨0, Nat.zero_le _, rfl, HK0, fun j hj => by omega⟩
  case round =>
    clear HK0
    obtain ⟨k, hk, rfl, hK, hP⟩ := hrel
    have c1' := hK.out.cell0 c1
    by_cases hlt : k < n
    · have dk : decide (k < n) = true := decide_eq_true hlt
      obtain ⟨b, rfl, -, e1, e2, e3⟩ := HA.out.at_ (i := k) (by rw [← HN.out]; exact hlt)
      have e1' := hK.out.cell0 e1
      have e2' := hK.out.cell0 e2
      have e3' := hK.out.cell0 e3
      obtain ⟨b1, b2⟩ := HB.out k hlt
      have HK2 : ∀ o, Hid (Keeps (fun _ => False) w (wr.alloc o)) := fun o => hK.out.alloc o
      by_cases heq : ra L k < 64 * s + 64 ∧ 64 * s < ra L k + rr L k
      · have hh := HIT.out k hlt heq.1 heq.2
        obtain ⟨q1, q2⟩ := heq
        generalize ra L k = y at *
        generalize rr L k = z at *
        generalize rg L k = g at *
        have t1 : decide ((y : Int) < 64 * (s : Int) + 64) = true := decide_eq_true (by omega)
        have t2 : decide (64 * (s : Int) < (y : Int) + (z : Int)) = true := decide_eq_true (by omega)
        by_cases h64 : 64 < z
        · have t3 : decide ((64 : Int) < (z : Int)) = true := decide_eq_true (by omega)
          have HR := Lib.hid (hh.1 h64)
          clear hh e1 e2 e3
          go_wp2
          go_ret
          exact ⟨by rw [HR.out]; rfl, (HK2 _).out⟩
        · have t3 : decide ((64 : Int) < (z : Int)) = false := decide_eq_false (by omega)
          have HR := Lib.hid (hh.2 (by omega))
          clear hh e1 e2 e3
          go_wp2
          go_ret
          exact ⟨by rw [HR.out]; rfl, (HK2 _).out⟩
      · have HP2 : Hid (∀ j, j < k + 1 → ¬ (ra L j < 64 * s + 64 ∧ 64 * s < ra L j + rr L j)) := by
          intro j hj
          by_cases e : j = k
          · subst e; exact heq
          · exact hP.out j (by omega)
        generalize ra L k = y at *
        generalize rr L k = z at *
        generalize rg L k = g at *
        clear hP e1 e2 e3
        by_cases q1 : y < 64 * s + 64
        · have t1 : decide ((y : Int) < 64 * (s : Int) + 64) = true := decide_eq_true (by omega)
          have t2 : decide (64 * (s : Int) < (y : Int) + (z : Int)) = false := decide_eq_false (by omega)
          clear heq
          go_wp2
          go_roundw
          case rel => exact ⟨k + 1, by omega, by go_num, (HK2 _).out, HP2⟩
          case measure => simp [intOf]; omega
        · have t1 : decide ((y : Int) < 64 * (s : Int) + 64) = false := decide_eq_false (by omega)
          clear heq
          go_wp2
          go_roundw
          case rel => exact ⟨k + 1, by omega, by go_num, (HK2 _).out, HP2⟩
          case measure => simp [intOf]; omega
    · obtain rfl : n = k := by omega
      have dk : decide (n < n) = false := by simp
      have HR := Lib.hid (HMS.out fun i hi => hP.out i hi)
      go_wp2
      go_ret
      exact ⟨by rw [HR.out]; rfl, hK.out⟩
end
end Go.Proofs.Ytnflgjhgegggcaa
