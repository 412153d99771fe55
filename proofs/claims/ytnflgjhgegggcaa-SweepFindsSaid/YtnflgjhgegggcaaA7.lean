/-
  The anchor of layer 7.
-/
import Derived.Test.YtnflgjhgegggcaaMade
import Derived.Test.YtnflgjhgegggcaaRch
import Derived.Test.YtnflgjhgegggcaaV4
import Derived.Test.YtnflgjhgegggcaaInts7
import Derived.Deep.RegionHeld3
namespace Go.Proofs.Ytnflgjhgegggcaa
open Go.RowKit

theorem rising_eqI : ∀ {l m : List Int}, l.Pairwise (· < ·) → m.Pairwise (· < ·) → (∀ x, x ∈ l ↔ x ∈ m) → l = m
  | [], [], _, _, _ => rfl
  | [], y :: m, _, _, h => absurd ((h y).2 (List.mem_cons_self ..)) (by simp)
  | x :: l, [], _, _, h => absurd ((h x).1 (List.mem_cons_self ..)) (by simp)
  | x :: l, y :: m, hl, hm, h => by
    rw [List.pairwise_cons] at hl hm
    have e : x = y := by
      have h1 := (h x).1 (List.mem_cons_self ..)
      have h2 := (h y).2 (List.mem_cons_self ..)
      rw [List.mem_cons] at h1 h2
      rcases h1 with h1 | h1
      · exact h1
      · rcases h2 with h2 | h2
        · exact h2.symm
        · have := hl.1 y h2; have := hm.1 x h1; omega
    subst e
    congr 1
    refine rising_eqI hl.2 hm.2 fun z => ?_
    have := h z
    rw [List.mem_cons, List.mem_cons] at this
    constructor
    · intro hz
      rcases this.1 (.inr hz) with e | e
      · have := hl.1 z hz; omega
      · exact e
    · intro hz
      rcases this.2 (.inr hz) with e | e
      · have := hm.1 z hz; omega
      · exact e

theorem HS.room_with (H : HS) (W : Nat → Int) (a : Nat) : (H.with W).room a = H.room a := rfl
namespace Anc7
def raw (g0 g1 g2 : Nat) (i : Nat) : RawE :=
  if i = 0 then ⟨2, 2, 0, some ⟨g0, 0, none⟩, 2, 2, fun t => if t = 0 then -2 else 7⟩
  else if i = 1 then ⟨1, 1, 0, some ⟨g1, 0, none⟩, 1, 1, fun _ => -1⟩
  else ⟨2, 1, 0, some ⟨g2, 0, none⟩, 1, 1, fun _ => -3⟩
theorem few (g0 g1 g2 : Nat) : Few (raw g0 g1 g2) 3 := ⟨by omega, fun i _ => by unfold raw; (repeat' split) <;> simp⟩
def H1 : HS := (HS.new 8192).stp 3
def H2 : HS := H1.stp 2
def H3 : HS := H2.stp 2
theorem H1e : (HS.new 8192).stp 3 = H1 := by unfold H1; exact Eq.refl _
theorem H2e : H1.stp 2 = H2 := by unfold H2; exact Eq.refl _
theorem H3e : H2.stp 2 = H3 := by unfold H3; exact Eq.refl _
theorem f0 : ((HS.new 8192).alloc 3).map Prod.fst = some 64 := by decide +kernel
theorem f1 : (H1.alloc 2).map Prod.fst = some 128 := by decide +kernel
theorem f2 : (H2.alloc 2).map Prod.fst = some 130 := by decide +kernel
theorem r0 : H3.room 64 = 4 := by decide +kernel
theorem r1 : H3.room 128 = 2 := by decide +kernel
theorem r2 : H3.room 130 = 2 := by decide +kernel
theorem r7 : H3.room 7 = 0 := by decide +kernel
theorem mkA_of {R : Nat → RawE} {k a : Nat} (h : ((mkH R k).alloc (((R k).wl : Int) + 1)).map Prod.fst = some a) : mkA R k = a := by
  unfold mkA
  cases hh : (mkH R k).alloc (((R k).wl : Int) + 1) with
  | none => rw [hh] at h; cases h
  | some p => rw [hh] at h; simpa using h
variable (g0 g1 g2 : Nat)
theorem mkH_succ (R : Nat → RawE) (k : Nat) : mkH R (k + 1) = (mkH R k).stp (((R k).wl : Int) + 1) := rfl
theorem e0 : (((raw g0 g1 g2 0).wl : Nat) : Int) + 1 = 3 := rfl
theorem e1 : (((raw g0 g1 g2 1).wl : Nat) : Int) + 1 = 2 := rfl
theorem e2 : (((raw g0 g1 g2 2).wl : Nat) : Int) + 1 = 2 := rfl
theorem h0 : mkH (raw g0 g1 g2) 0 = HS.new 8192 := rfl
theorem h1 : mkH (raw g0 g1 g2) 1 = H1 := by rw [mkH_succ, h0, e0, H1e]
theorem h2 : mkH (raw g0 g1 g2) 2 = H2 := by rw [mkH_succ, h1, e1, H2e]
theorem h3 : mkH (raw g0 g1 g2) 3 = H3 := by rw [mkH_succ, h2, e2, H3e]
theorem a0 : mkA (raw g0 g1 g2) 0 = 64 := mkA_of (by rw [h0, e0]; exact f0)
theorem a1 : mkA (raw g0 g1 g2) 1 = 128 := mkA_of (by rw [h1, e1]; exact f1)
theorem a2 : mkA (raw g0 g1 g2) 2 = 130 := mkA_of (by rw [h2, e2]; exact f2)
theorem m0 : mkr (raw g0 g1 g2) 3 0 = 4 := by unfold mkr; rw [a0, h3]; exact r0
theorem m1 : mkr (raw g0 g1 g2) 3 1 = 2 := by unfold mkr; rw [a1, h3]; exact r1
theorem m2 : mkr (raw g0 g1 g2) 3 2 = 2 := by unfold mkr; rw [a2, h3]; exact r2
end Anc7
open Anc7 in
/-- What the anchor's heap has. -/
theorem anc7_live {w0 w : World} {B : HB} {rb g0 g1 g2 : Nat} {v : Value} {E : Nat → LB} {H : HS} (h : M2 w0 w B rb (raw g0 g1 g2) 3 3 v E H) :
    (∀ x : Int, H.Live [64] x ↔ x ∈ ([64, 128] : List Int)) ∧ H.blocks.length = 3 := by
  have e64 := (h.done 0 (by omega)).1
  have e128 := (h.done 1 (by omega)).1
  have hsh := h.env.shape
  rw [h3] at hsh
  have hroom : ∀ a, H.room a = H3.room a := fun a => by rw [hsh]; exact HS.room_with _ _ _
  have hrefs : ∀ a : Nat, H.isRef (a : Int) = decide (H3.room a ≠ 0) := fun a => by unfold HS.isRef; rw [HS.roomI_nat, hroom]
  have w64 : H.words 64 = hdr 2 2 0 := by have := e64.head; rw [a0] at this; exact this
  have w65 : H.words 65 = 128 := by
    have := e64.wd 0 (by rw [m0]; omega)
    rw [a0] at this
    rw [this]
    show mkv (raw g0 g1 g2) 3 (-2) = 128
    unfold mkv
    rw [if_pos (by omega)]
    show ((mkA (raw g0 g1 g2) 1 : Nat) : Int) = 128
    rw [a1]; rfl
  have w66 : H.words 66 = 7 := by
    have := e64.wd 1 (by rw [m0]; omega)
    rw [a0] at this
    rw [this]
    rfl
  have w128 : H.words 128 = hdr 1 1 0 := by have := e128.head; rw [a1] at this; exact this
  have k64 : H.kids 64 = [128] := by
    unfold HS.kids
    have hp := hdr_parts (k := 2) (s := 2) (m := 0) (by unfold hdrOk; omega)
    rw [w64, hp.2.2.2.1, if_pos rfl, hp.1, hp.2.1, hp.2.2.1, hroom, r0]
    show H.kidsTo 64 2 0 2 = [128]
    have q1 : H.isRef (128 : Int) = true := (hrefs 128).trans (by rw [r1]; rfl)
    have q2 : H.isRef (7 : Int) = false := (hrefs 7).trans (by rw [r7]; rfl)
    simp only [HS.kidsTo, Nat.add_zero, Nat.reduceAdd, w65, w66, q1, q2]
    simp [mayRef]
  have k128 : H.kids 128 = [] := by
    unfold HS.kids
    have hp := hdr_parts (k := 1) (s := 1) (m := 0) (by unfold hdrOk; omega)
    rw [w128, hp.2.2.2.1, if_pos rfl, hp.1, hp.2.1, hp.2.2.1, hroom, r1]
    show H.kidsTo 128 1 0 1 = []
    simp [HS.kidsTo, mayRef]
  have i64 : H.isRef (64 : Int) = true := (hrefs 64).trans (by rw [r0]; rfl)
  have l64 : H.Live [64] 64 := .root (by simp) i64
  refine ⟨fun x => ⟨fun hx => ?_, fun hx => ?_⟩, ?_⟩
  · induction hx with
    | root hx _ => simp at hx; simp [hx]
    | step _ hy ih =>
      simp at ih
      rcases ih with rfl | rfl
      · rw [show Int.toNat 64 = 64 from rfl, k64] at hy; simp at hy; simp [hy]
      · rw [show Int.toNat 128 = 128 from rfl, k128] at hy; simp at hy
  · simp at hx
    rcases hx with rfl | rfl
    · exact l64
    · exact .step l64 (by rw [show Int.toNat 64 = 64 from rfl, k64]; simp)
  · have hl := mk_listed (few g0 g1 g2) 3 (Nat.le_refl _)
    have hwf := h.env.wf (few g0 g1 g2)
    have := hwf.count (l := (List.range 3).map (mkA (raw g0 g1 g2))) (by
      rw [List.nodup_iff_pairwise_ne, List.pairwise_map]
      refine List.Pairwise.imp_of_mem ?_ (List.nodup_range (n := 3))
      intro i j hi hj hne e
      rw [List.mem_range] at hi hj
      exact hne (hl.inj i j hi hj e)) (fun a => by
      have : H.room a = (mkH (raw g0 g1 g2) 3).room a := by rw [h.env.shape]; exact HS.room_with _ _ _
      rw [this, hl.rooms a, List.mem_map]
      constructor
      · rintro ⟨j, hj, rfl⟩; exact ⟨j, List.mem_range.1 hj, rfl⟩
      · rintro ⟨j, hj, rfl⟩; exact ⟨j, List.mem_range.2 hj, rfl⟩)
    simpa using this
end Go.Proofs.Ytnflgjhgegggcaa
