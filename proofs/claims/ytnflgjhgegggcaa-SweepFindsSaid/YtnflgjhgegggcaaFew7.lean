/-
  derricklaw07.few; integers that come in, of which each is told to fit.
-/
import Derived.Test.YtnflgjhgegggcaaA7w
namespace Go.Proofs.Ytnflgjhgegggcaa
open Go.RowKit

set_option maxRecDepth 100000 in
set_option maxHeartbeats 4000000 in
theorem few_calls (w : World) (a : Option Addr) (len cap : Nat) (R : Nat → RawE) (hA : RawArg w a len R) :
    Calls Try.prog 11 #[.slice a len cap] w fun e w' => ∃ b, e = .returned (.bool b) ∧ (b = true ↔ Few R len) ∧ Hid (Keeps (fun _ => False) w w') := by
  have HA := Lib.hid hA
  clear hA
  by_cases h40 : 40 < len
  · have d : decide ((40 : Int) < (len : Int)) = true := decide_eq_true (by omega)
    go_enter Try.func11, Try.ntmps11
    go_wp2
    go_ret
    exact ⟨false, rfl, ⟨(fun h => nomatch h), fun h => absurd h.1 (by omega)⟩, Keeps.refl _ _⟩
  · have d : decide ((40 : Int) < (len : Int)) = false := decide_eq_false (by omega)
    have hlen : len ≤ 40 := by omega
    have HST : Hid (Keeps (fun _ => False) w w ∧ ∀ i, i < 0 → (R i).wl ≤ 100) := ⟨Keeps.refl _ _, fun i hi => by omega⟩
    go_enter Try.func11, Try.ntmps11
    go_wp2
    go_loopw [10] (fun i wr => ∃ k : Nat, k ≤ len ∧ i = .int .i64 k ∧ Hid (Keeps (fun _ => False) w wr ∧ ∀ i, i < k → (R i).wl ≤ 100)) (fun i _ => len - (intOf i).toNat)
    case atStart => exact ⟨0, Nat.zero_le _, rfl, HST⟩
    case round =>
      clear HST
      obtain ⟨k, hk, rfl, hM⟩ := hrel
      by_cases hlt : k < len
      · have dk : decide (k < len) = true := decide_eq_true hlt
        obtain ⟨b, o, rfl, c0, c1, c2, c3, -, -⟩ := (HA.out.keep hM.out.1).get hlt
        by_cases hw : (R k).wl ≤ 100
        · have dw : decide ((100 : Int) < ((R k).wl : Int)) = false := decide_eq_false (by omega)
          have HN : Hid (∀ o : Obj, Hid (Keeps (fun _ => False) w (wr.alloc o) ∧ ∀ i, i < k + 1 → (R i).wl ≤ 100)) := fun o => ⟨hM.out.1.alloc o, fun i hi => by
            by_cases e : i = k
            · rw [e]; exact hw
            · exact hM.out.2 i (by omega)⟩
          clear hM
          go_wp2
          go_roundw
          case rel => exact ⟨k + 1, by omega, by go_num, HN.out _⟩
          case measure => simp [intOf]; omega
        · have dw : decide ((100 : Int) < ((R k).wl : Int)) = true := decide_eq_true (by omega)
          have HN : Hid (∀ o : Obj, Hid (Keeps (fun _ => False) w (wr.alloc o))) := fun o => hM.out.1.alloc o
          have HNF : Hid (¬ Few R len) := fun h => absurd (h.2 k hlt) hw
          clear hM
          go_wp2
          go_ret
          exact ⟨false, rfl, ⟨(fun h => nomatch h), fun h => absurd h HNF.out⟩, HN.out _⟩
      · obtain rfl : len = k := by omega
        have dk : decide (len < len) = false := by simp
        have HF : Hid (Few R len) := ⟨hlen, hM.out.2⟩
        have HK := Lib.hid hM.out.1
        clear hM
        go_wp2
        go_ret
        exact ⟨true, rfl, ⟨(fun _ => HF.out), fun _ => rfl⟩, HK⟩

/-- Integers that came in, each of which fits. -/
def ArgI (w : World) (a : Option Addr) (len cap : Nat) (z : Nat → Int) : Prop :=
  Arg w a len (fun i => .int .i64 (z i)) ∧ (a = none → cap = 0) ∧ ∀ i, i < len → (Lit.int .i64 (z i)).wf = true
def zl (z : Nat → Int) (n : Nat) : List Int := (List.range n).map z
theorem zl_length (z : Nat → Int) (n : Nat) : (zl z n).length = n := by simp [zl]
theorem zl_get (z : Nat → Int) {n i : Nat} (h : i < n) : (zl z n).getD i 0 = z i := by
  rw [List.getD_eq_getElem?_getD, zl, List.getElem?_map, List.getElem?_range h]; rfl
theorem ArgI.src {w : World} {a : Option Addr} {len cap : Nat} {z : Nat → Int} (h : ArgI w a len cap z) : Src w (.slice a len cap) (zl z len) := by
  have := Arg.src (w := w) (a := a) (l := zl z len) (cap := cap) (by
    rw [zl_length]
    rcases h.1 with h0 | ⟨b, o, e, h2⟩
    · exact .inl h0
    · exact .inr ⟨b, o, e, fun i hi => by rw [h2 i hi]; show some (Value.int .i64 (z i)) = some (Value.int .i64 ((zl z len).getD i 0)); rw [zl_get z hi]⟩) h.2.1
  rwa [zl_length] at this
theorem ArgI.fits {w : World} {a : Option Addr} {len cap : Nat} {z : Nat → Int} (h : ArgI w a len cap z) : ∀ y ∈ zl z len, (Lit.int .i64 y).wf = true := by
  intro y hy
  rw [zl, List.mem_map] at hy
  obtain ⟨i, hi, rfl⟩ := hy
  exact h.2.2 i (List.mem_range.1 hi)
end Go.Proofs.Ytnflgjhgegggcaa
