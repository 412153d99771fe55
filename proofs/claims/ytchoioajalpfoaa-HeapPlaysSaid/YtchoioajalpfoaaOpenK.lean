/-
  What a law is told of an argument that is a slice of arrays of integers, or of structs of integers.
-/
import Derived.Test.YtchoioajalpfoaaOpen
import Derived.Test.YtchoioajalpfoaaArgK
namespace Go.Proofs.Ytchoioajalpfoaa
open Go.ChangeShapes Go.WideShapes Go.RowKit

section
variable {H : Type} {enc : TypeId × Value → H} {P : Program} {w : World} {base : Nat} {spare : Nat → Bool} {held : Bool}

/-- An element is `c` integers. -/
def ElemInts (enc : TypeId × Value → H) (P : Program) (w : World) (base : Nat) (spare : Nat → Bool) (held : Bool) (e : TypeId) (c : Nat) : Prop :=
  ∀ fuel cs x, DataW.trod enc P w base spare held fuel e cs = some x → cs.length = c → ∀ j, j < c → ∃ z : Int, cs[j]? = some (.int .i64 z)
theorem elem_arr {n : Nat} {t e : TypeId} (ht : P.underlying t = some (.array n e)) (he : P.underlying e = some (.int .i64)) (hc : P.cellsOf e = 1) : ElemInts enc P w base spare held t n := by
  intro fuel cs x h _ j hj
  exact ⟨_, (trod_arr_ints ht he hc h j hj).1⟩
theorem elem_struct {fs : Array Field} {t : TypeId} {c : Nat} (ht : P.underlying t = some (.struct fs)) (hf : ∀ j, j < c → ∃ f, fs[j]? = some f ∧ f.offset = j ∧ P.underlying f.type = some (.int .i64) ∧ P.cellsOf f.type = 1) : ElemInts enc P w base spare held t c := by
  intro fuel cs x h hl j hj
  obtain ⟨xs, n, _, _, hlen, hxl, hel⟩ := DataW.trod_struct ht h
  obtain ⟨f, hfj, ho, hu, hc⟩ := hf j hj
  have hjs : j < fs.size := by
    rcases Nat.lt_or_ge j fs.size with h | h
    · exact h
    · rw [Array.getElem?_eq_none h] at hfj; cases hfj
  have h1 := hel j f hfj
  rw [ho, hc] at h1
  have h2 : ∃ y, DataW.trod enc P w base spare held n f.type ((cs.drop j).take 1) = some y := ⟨_, h1.trans (List.getElem?_eq_getElem (by omega))⟩
  obtain ⟨y, hy⟩ := h2
  obtain ⟨z, hz, _, _⟩ := DataW.trod_int hu hy
  refine ⟨z, ?_⟩
  have := congrArg (fun l => l[0]?) hz
  simp only [List.getElem?_take, List.getElem?_drop] at this
  simpa using this
theorem open_argK {t e : TypeId} {c fuel : Nat} {a : Option Addr} {len cap : Nat} {x : DataW H × List MemPlace} (ht : P.underlying t = some (.slice e)) (hc : P.cellsOf e = c) (hc0 : 0 < c) (hE : ElemInts enc P w base spare held e c)
    (h : DataW.trod enc P w base spare held fuel t [.slice a len cap] = some x) : ∃ f : Nat → Nat → Int, ArgK w a len c f := by
  rcases DataW.trod_slice ht h with ⟨h0, -⟩ | ⟨ad, len', cap', elems, rest, n, -, hcs, -, -, hl, hm, hlen, hel, -, -⟩
  · simp at h0
    exact ⟨fun _ _ => 0, .inl h0.2.1⟩
  · simp only [List.cons.injEq, Value.slice.injEq, and_true] at hcs
    obtain ⟨rfl, rfl, rfl⟩ := hcs
    rcases Nat.eq_zero_or_pos len with e0 | e0
    · exact ⟨fun _ _ => 0, .inl e0⟩
    have each : ∀ i, i < len → ∀ j, j < c → ∃ z : Int, w.cell? ((ad.add (i * c)).add j) = some (.int .i64 z) := by
      intro i hi j hj
      have h1 := hel i hi
      have h2 : ∃ y, elems[i]? = some y := ⟨_, List.getElem?_eq_getElem (by omega)⟩
      obtain ⟨y, hy⟩ := h2
      rw [hy, hc] at h1
      rw [Option.bind_eq_some_iff] at h1
      obtain ⟨cs, hcs, hy'⟩ := h1
      obtain ⟨_, hn, hall⟩ := World.cells?_some hcs
      obtain ⟨z, hz⟩ := hE _ _ _ hy' hn j hj
      exact ⟨z, (hall j hj).trans hz⟩
    obtain ⟨z0, h0⟩ := each 0 e0 0 hc0
    obtain ⟨b, o, spot⟩ := ad
    have hs : spot = none := by simpa [Addr.add] using World.cell?_spot h0
    subst hs
    have ea : ∀ i, (⟨b, o, none⟩ : Addr).add i = ⟨b, o + i, none⟩ := fun i => by unfold Addr.add; split <;> simp_all
    have eb : ∀ p i, (⟨b, p, none⟩ : Addr).add i = ⟨b, p + i, none⟩ := fun p i => by unfold Addr.add; split <;> simp_all
    refine ⟨fun i j => numOf (w.cell? ⟨b, o + i * c + j, none⟩), .inr ⟨b, o, rfl, fun i hi j hj => ?_⟩⟩
    obtain ⟨z, hz⟩ := each i hi j hj
    rw [eb, eb] at hz
    simp only [hz, numOf]
end
end Go.Proofs.Ytchoioajalpfoaa
