/-
  SweepFrees: the plain part.
-/
import Derived.Test.YtnflgjhgegggcaaFew7
import Derived.Test.YtnflgjhgegggcaaDeep
namespace Go.Proofs.Ytnflgjhgegggcaa
open Go.RowKit

namespace Frees
/-- What a word of the argument is turned to. -/
def rv (R : Nat → RawE) (m : Nat) (x : Int) : Int := if x < 0 ∧ 0 < m then (mkA R ((-(x + 1)).toNat % m) : Nat) else x
theorem rv_fits {R : Nat → RawE} {m : Nat} (hF : Few R m) {l : List Int} (h : ∀ y ∈ l, (Lit.int .i64 y).wf = true) : ∀ y ∈ l.map (rv R m), (Lit.int .i64 y).wf = true := by
  intro y hy
  rw [List.mem_map] at hy
  obtain ⟨x, hx, rfl⟩ := hy
  unfold rv
  split
  · rename_i hc
    have := (mkr_ge hF (i := (-(x + 1)).toNat % m) (Nat.mod_lt _ hc.2)).2.2.2.1
    exact wf_small (by omega) (by omega)
  · exact h x hx
theorem wf_lo {x : Int} (h : (Lit.int .i64 x).wf = true) : -9223372036854775808 ≤ x ∧ x ≤ 9223372036854775807 := by
  have e1 : IntKind.i64.min = -9223372036854775808 := by decide
  have e2 : IntKind.i64.max = 9223372036854775807 := by decide
  simp [Lit.wf, e1, e2] at h
  exact h
/-- More roots, more is reached. -/
theorem live_mono {H : HS} {a b : List Int} (h : ∀ x ∈ a, x ∈ b) {y : Int} (hy : H.Live a y) : H.Live b y := by
  induction hy with
  | root hx hr => exact .root (h _ hx) hr
  | step _ hk ih => exact .step ih hk
theorem live_nil {H : HS} {y : Int} (hy : H.Live [] y) : False := by
  induction hy with
  | root hx _ => simp at hx
  | step _ _ ih => exact ih
theorem m2_listed {w w' : World} {B : HB} {rb m : Nat} {R : Nat → RawE} {v : Value} {E : Nat → LB} {H : HS} (h : M2 w w' B rb R m m v E H) (hF : Few R m) : HS.Listed H 128 m (mkA R) := by
  have := (mk_listed hF m (Nat.le_refl _)).withWords H.words
  rw [h.env.shape]
  exact this
/-- All is freed. -/
theorem swept_nil {H H' : HS} {N m c : Nat} {L : Nat → Nat} (hl : HS.Listed H N m L) (hs : H.Swept H' [] c) : c = m ∧ HS.Listed H' N 0 L := by
  have hl' : HS.Listed H' N 0 L := ⟨hs.wf, hs.n.trans hl.hn, fun a => ⟨fun h => absurd (hs.gone a fun hy => live_nil hy) h, fun ⟨j, hj, _⟩ => by omega⟩, fun i j hi => by omega⟩
  have h1 := hs.count
  have h2 := hl'.rest_done.2
  rw [h2] at h1
  have h3 := Listed.count hl
  simp at h1
  exact ⟨by omega, hl'⟩
theorem room_127 {H : HS} {L : Nat → Nat} (hl : HS.Listed H 128 0 L) : ∃ a H', H.alloc 8128 = some (a, H') := by
  have hf : H.Front 1 := fun a ha => by obtain ⟨j, hj, _⟩ := (hl.rooms a).1 ha; omega
  obtain ⟨a, H', h, -⟩ := hl.wf.alloc_front hf (by omega) (x := 8128) (by omega) (by omega) (by rw [hl.hn]; decide)
  exact ⟨a, H', h⟩
/-- What is reached is short. -/
theorem live_short {H : HS} {N m : Nat} {L : Nat → Nat} {rl l : List Int} (hl : HS.Listed H N m L) (hp : l.Pairwise (· < ·)) (hm : ∀ y, y ∈ l ↔ H.Live rl y) : l.length ≤ m := by
  have := nodup_length_le (l := l) (m := (List.range m).map fun j => ((L j : Nat) : Int)) (List.nodup_iff_pairwise_ne.2 (hp.imp fun h => by omega)) (fun y hy => by
    have h := HS.isRef_pos hl.wf ((hm y).1 hy).isRef
    obtain ⟨j, hj, e⟩ := (hl.rooms _).1 h.2.2
    exact List.mem_map.2 ⟨j, List.mem_range.2 hj, by omega⟩)
  simpa using this
end Frees
end Go.Proofs.Ytnflgjhgegggcaa
