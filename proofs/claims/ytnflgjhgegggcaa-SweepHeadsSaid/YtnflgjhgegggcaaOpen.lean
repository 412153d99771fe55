/-
  What a law is told of an argument that is an array of integers, or a slice of such arrays or of structs of integers.
-/
import Derived.Test.YtnflgjhgegggcaaArgs
import Derived.OpenShut
namespace Go.Proofs.Ytnflgjhgegggcaa
open Go.ChangeShapes Go.WideShapes

section
variable {H : Type} {enc : TypeId × Value → H} {P : Program} {w : World} {base : Nat} {spare : Nat → Bool} {held : Bool}

def numOf (o : Option Value) : Int := match o with
  | some (.int _ z) => z
  | _ => 0
theorem okWide_array {n : Nat} {t e : TypeId} {r : Reach} {b0 : Nat} {v : Value} (ht : P.underlying t = some (.array n e)) (h : Value.okWide P w r b0 t v) : ∃ cs, v = .agg cs ∧ cs.size = P.cellsOf t := by
  simp only [Value.okWide, ht] at h
  obtain ⟨cs, h1, h2, _⟩ := h
  exact ⟨cs, h1, h2⟩
theorem trod_arr_ints {n : Nat} {t e : TypeId} (ht : P.underlying t = some (.array n e)) (he : P.underlying e = some (.int .i64)) (hc : P.cellsOf e = 1) {fuel : Nat} {cs : List Value} {x : DataW H × List MemPlace} (h : DataW.trod enc P w base spare held fuel t cs = some x) :
    ∀ i, i < n → cs[i]? = some (.int .i64 (numOf cs[i]?)) ∧ (Lit.int .i64 (numOf cs[i]?)).wf = true := by
  obtain ⟨xs, m, _, _, hl, hxl, hel⟩ := DataW.trod_array ht h
  intro i hi
  have h1 := hel i hi
  rw [hc, Nat.mul_one] at h1
  have h2 : ∃ y, DataW.trod enc P w base spare held m e ((cs.drop i).take 1) = some y := ⟨_, h1.trans (List.getElem?_eq_getElem (by omega))⟩
  obtain ⟨y, hy⟩ := h2
  obtain ⟨z, hz, _, hw⟩ := DataW.trod_int he hy
  have h3 : cs[i]? = some (.int .i64 z) := by
    have := congrArg (fun l => l[0]?) hz
    simp only [List.getElem?_take, List.getElem?_drop] at this
    simpa using this
  rw [h3]
  exact ⟨rfl, hw⟩
/-- An array of integers that came in by value. -/
theorem open_arr2 {t e : TypeId} {r : Reach} {b0 : Nat} {v : Value} {d : DataW H} {p : List MemPlace} (ht : P.underlying t = some (.array 2 e)) (he : P.underlying e = some (.int .i64)) (hc : P.cellsOf e = 1) (hC : P.cellsOf t = 2)
    (hv : Value.okWide P w r b0 t v) (h : DataW.Trod enc P w base spare held t v d p) : ∃ f : Nat → Int, v = .agg #[.int .i64 (f 0), .int .i64 (f 1)] := by
  obtain ⟨cs, rfl, hsz⟩ := okWide_array ht hv
  obtain ⟨fuel, hf⟩ := h
  have hk := trod_arr_ints ht he hc hf
  simp only [Value.cells] at hk
  obtain ⟨l⟩ := cs
  match l, hsz.trans hC with
  | [c0, c1], _ =>
    have h0 := (hk 0 (by omega)).1
    have h1 := (hk 1 (by omega)).1
    simp at h0 h1
    refine ⟨fun i => if i = 0 then numOf (some c0) else numOf (some c1), ?_⟩
    simp only [if_true, Nat.one_ne_zero, if_false]
    rw [← h0, ← h1]
theorem open_arr3 {t e : TypeId} {r : Reach} {b0 : Nat} {v : Value} {d : DataW H} {p : List MemPlace} (ht : P.underlying t = some (.array 3 e)) (he : P.underlying e = some (.int .i64)) (hc : P.cellsOf e = 1) (hC : P.cellsOf t = 3)
    (hv : Value.okWide P w r b0 t v) (h : DataW.Trod enc P w base spare held t v d p) : ∃ f : Nat → Int, v = .agg #[.int .i64 (f 0), .int .i64 (f 1), .int .i64 (f 2)] := by
  obtain ⟨cs, rfl, hsz⟩ := okWide_array ht hv
  obtain ⟨fuel, hf⟩ := h
  have hk := trod_arr_ints ht he hc hf
  simp only [Value.cells] at hk
  obtain ⟨l⟩ := cs
  match l, hsz.trans hC with
  | [c0, c1, c2], _ =>
    have h0 := (hk 0 (by omega)).1
    have h1 := (hk 1 (by omega)).1
    have h2 := (hk 2 (by omega)).1
    simp at h0 h1 h2
    refine ⟨fun i => if i = 0 then numOf (some c0) else if i = 1 then numOf (some c1) else numOf (some c2), ?_⟩
    simp only [if_true, Nat.one_ne_zero, if_false, show ¬ (2 = 0) by decide, show ¬ (2 = 1) by decide]
    rw [← h0, ← h1, ← h2]
end
end Go.Proofs.Ytnflgjhgegggcaa
