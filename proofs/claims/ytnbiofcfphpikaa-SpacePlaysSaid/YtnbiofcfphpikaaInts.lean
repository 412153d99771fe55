/-
  Slices of integers that the call itself made, as lists.
-/
import Derived.Test.YtnbiofcfphpikaaArgs
namespace Go.Proofs.Ytnbiofcfphpikaa
open Go.RowKit

def Ints (w : World) (v : Value) (l : List Int) : Prop := Own w 3 v l.length (fun i => .int .i64 (l.getD i 0))

theorem Ints.nil (w : World) : Ints w (.slice none 0 0) [] := Own.nil _ _ _
theorem Ints.snoc {w : World} {v : Value} {l : List Int} {x : Int} (h : Own w 3 v (l.length + 1) (setf (fun i => .int .i64 (l.getD i 0)) l.length (.int .i64 x))) : Ints w v (l ++ [x]) := by
  unfold Ints
  rw [List.length_append, List.length_singleton]
  refine h.congr fun i hi => ?_
  unfold setf
  split
  · rename_i e; subst e; simp
  · rename_i e
    have : i < l.length := by omega
    simp [List.getD_eq_getElem?_getD, List.getElem?_append_left this]
theorem Ints.keep {w w' : World} {v : Value} {l : List Int} {F : Nat → Prop} (h : Ints w v l) (hk : Keeps F w w') (hF : ∀ k, v.ownBlock = some k → ¬ F k) : Ints w' v l := Own.keep h hk hF
theorem Ints.alloc {w : World} {v : Value} {l : List Int} (h : Ints w v l) (o : Obj) : Ints (w.alloc o) v l := Own.alloc h o
theorem Ints.drewN {w : World} {v : Value} {l : List Int} (h : Ints w v l) (q : Nat) : Ints (w.drewN q) v l := h

/-- What a call gathers in a slice of its own while the heap H stands as it was. -/
structure Gather (w wr : World) (v : Value) (l : List Int) : Prop where
  ints : Ints wr v l
  keeps : Keeps (fun _ => False) w wr
  fresh : ∀ g, v.ownBlock = some g → w.heap.size ≤ g
theorem Gather.start (w : World) : Gather w w (.slice none 0 0) [] := ⟨Ints.nil w, Keeps.refl _ _, fun g h => by simp [Value.ownBlock] at h⟩
theorem Gather.drewN {w wr : World} {v : Value} {l : List Int} (h : Gather w wr v l) (q : Nat) : Gather w (wr.drewN q) v l := ⟨h.ints.drewN q, h.keeps.drewN q, h.fresh⟩
theorem Gather.snoc {w wa wb : World} {v : Value} {l : List Int} {x : Int} {g cap : Nat} {o : Obj} (h : Gather w wa v l)
    (hO : Own wb 3 (.slice (some ⟨g, 0, none⟩) (l.length + 1) cap) (l.length + 1) (setf (fun i => .int .i64 (l.getD i 0)) l.length (.int .i64 x)))
    (hK : Keeps (fun b => v.ownBlock = some b) (wa.alloc o) wb) (hg : v.ownBlock = some g ∨ g = (wa.alloc o).heap.size) : Gather w wb (.slice (some ⟨g, 0, none⟩) (l.length + 1) cap) (l ++ [x]) := by
  refine ⟨Ints.snoc hO, (h.keeps.alloc o).trans hK (fun b hb hv => by have := h.fresh b hv; omega), ?_⟩
  intro g' hg'
  simp [Value.ownBlock] at hg'
  subst hg'
  rcases hg with e | e
  · exact h.fresh g e
  · have := h.keeps.size
    have : wa.heap.size ≤ g := by rw [e]; simp
    omega
end Go.Proofs.Ytnbiofcfphpikaa
