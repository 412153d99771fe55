/-
  What a law is told of an argument that is a slice of structs of integers.
-/
import Derived.Test.YtnbiofcfphpikaaArgs
import Derived.OpenShut
namespace Go.Proofs.Ytnbiofcfphpikaa
open Go.ChangeShapes Go.WideShapes

section
variable {H : Type} {enc : TypeId × Value → H} {P : Program} {w : World} {base : Nat} {spare : Nat → Bool} {held : Bool}

def numOf (o : Option Value) : Int := match o with
  | some (.int _ z) => z
  | _ => 0
theorem okWide_array {n : Nat} {t e : TypeId} {r : Reach} {b0 : Nat} {v : Value} (ht : P.underlying t = some (.array n e)) (h : Value.okWide P w r b0 t v) : ∃ cs, v = .agg cs ∧ cs.size = P.cellsOf t := by
  simp only [Value.okWide, ht] at h
  obtain ⟨cs, h1, h2, _⟩ := h
  exact ⟨cs, h1, h2⟩
theorem trod_arr_ints {n : Nat} {t e : TypeId} (ht : P.underlying t = some (.array n e)) (he : P.underlying e = some (.int .i64)) (hc : P.cellsOf e = 1) {fuel : Nat} {cs : List Value} {x : DataW H × List MemPlace} (h : DataW.trod enc P w base spare held fuel t cs = some x) :
    ∀ i, i < n → cs[i]? = some (.int .i64 (numOf cs[i]?)) ∧ (Lit.int .i64 (numOf cs[i]?)).wf = true := by
  obtain ⟨xs, m, _, _, hl, hxl, hel⟩ := DataW.trod_array ht h
  intro i hi
  have h1 := hel i hi
  rw [hc, Nat.mul_one] at h1
  have h2 : ∃ y, DataW.trod enc P w base spare held m e ((cs.drop i).take 1) = some y := ⟨_, h1.trans (List.getElem?_eq_getElem (by omega))⟩
  obtain ⟨y, hy⟩ := h2
  obtain ⟨z, hz, _, hw⟩ := DataW.trod_int he hy
  have h3 : cs[i]? = some (.int .i64 z) := by
    have := congrArg (fun l => l[0]?) hz
    simp only [List.getElem?_take, List.getElem?_drop] at this
    simpa using this
  rw [h3]
  exact ⟨rfl, hw⟩
/-- An array of integers that came in by value. -/
theorem open_arr2 {t e : TypeId} {r : Reach} {b0 : Nat} {v : Value} {d : DataW H} {p : List MemPlace} (ht : P.underlying t = some (.array 2 e)) (he : P.underlying e = some (.int .i64)) (hc : P.cellsOf e = 1) (hC : P.cellsOf t = 2)
    (hv : Value.okWide P w r b0 t v) (h : DataW.Trod enc P w base spare held t v d p) : ∃ f : Nat → Int, v = .agg #[.int .i64 (f 0), .int .i64 (f 1)] := by
  obtain ⟨cs, rfl, hsz⟩ := okWide_array ht hv
  obtain ⟨fuel, hf⟩ := h
  have hk := trod_arr_ints ht he hc hf
  simp only [Value.cells] at hk
  obtain ⟨l⟩ := cs
  match l, hsz.trans hC with
  | [c0, c1], _ =>
    have h0 := (hk 0 (by omega)).1
    have h1 := (hk 1 (by omega)).1
    simp at h0 h1
    refine ⟨fun i => if i = 0 then numOf (some c0) else numOf (some c1), ?_⟩
    simp only [if_true, Nat.one_ne_zero, if_false]
    rw [← h0, ← h1]
theorem open_arr3 {t e : TypeId} {r : Reach} {b0 : Nat} {v : Value} {d : DataW H} {p : List MemPlace} (ht : P.underlying t = some (.array 3 e)) (he : P.underlying e = some (.int .i64)) (hc : P.cellsOf e = 1) (hC : P.cellsOf t = 3)
    (hv : Value.okWide P w r b0 t v) (h : DataW.Trod enc P w base spare held t v d p) : ∃ f : Nat → Int, v = .agg #[.int .i64 (f 0), .int .i64 (f 1), .int .i64 (f 2)] := by
  obtain ⟨cs, rfl, hsz⟩ := okWide_array ht hv
  obtain ⟨fuel, hf⟩ := h
  have hk := trod_arr_ints ht he hc hf
  simp only [Value.cells] at hk
  obtain ⟨l⟩ := cs
  match l, hsz.trans hC with
  | [c0, c1, c2], _ =>
    have h0 := (hk 0 (by omega)).1
    have h1 := (hk 1 (by omega)).1
    have h2 := (hk 2 (by omega)).1
    simp at h0 h1 h2
    refine ⟨fun i => if i = 0 then numOf (some c0) else if i = 1 then numOf (some c1) else numOf (some c2), ?_⟩
    simp only [if_true, Nat.one_ne_zero, if_false, show ¬ (2 = 0) by decide, show ¬ (2 = 1) by decide]
    rw [← h0, ← h1, ← h2]
end
end Go.Proofs.Ytnbiofcfphpikaa

namespace Go.Proofs.Ytnbiofcfphpikaa
open Go.RowKit

/-- A slice of structs of c integers that came in. -/
def ArgK (w : World) (a : Option Addr) (len c : Nat) (f : Nat → Nat → Int) : Prop :=
  len = 0 ∨ ∃ b o, a = some ⟨b, o, none⟩ ∧ ∀ i, i < len → ∀ j, j < c → w.cell? ⟨b, o + i * c + j, none⟩ = some (.int .i64 (f i j))
theorem ArgK.get {w : World} {a : Option Addr} {len c : Nat} {f : Nat → Nat → Int} (h : ArgK w a len c f) {k : Nat} (hk : k < len) : ∃ b o, a = some ⟨b, o, none⟩ ∧ ∀ j, j < c → w.cell? ⟨b, o + k * c + j, none⟩ = some (.int .i64 (f k j)) := by
  rcases h with h | ⟨b, o, h1, h2⟩
  · omega
  · exact ⟨b, o, h1, h2 k hk⟩
theorem ArgK.keep {w w' : World} {a : Option Addr} {len c : Nat} {f : Nat → Nat → Int} (h : ArgK w a len c f) (hk : Keeps (fun _ => False) w w') : ArgK w' a len c f := by
  rcases h with h | ⟨b, o, h1, h2⟩
  · exact .inl h
  · exact .inr ⟨b, o, h1, fun i hi j hj => hk.cell0 (h2 i hi j hj)⟩
end Go.Proofs.Ytnbiofcfphpikaa

namespace Go.Proofs.Ytnbiofcfphpikaa
open Go.ChangeShapes Go.WideShapes Go.RowKit

section
variable {H : Type} {enc : TypeId × Value → H} {P : Program} {w : World} {base : Nat} {spare : Nat → Bool} {held : Bool}

/-- An element is `c` integers. -/
def ElemInts (enc : TypeId × Value → H) (P : Program) (w : World) (base : Nat) (spare : Nat → Bool) (held : Bool) (e : TypeId) (c : Nat) : Prop :=
  ∀ fuel cs x, DataW.trod enc P w base spare held fuel e cs = some x → cs.length = c → ∀ j, j < c → ∃ z : Int, cs[j]? = some (.int .i64 z)
theorem elem_arr {n : Nat} {t e : TypeId} (ht : P.underlying t = some (.array n e)) (he : P.underlying e = some (.int .i64)) (hc : P.cellsOf e = 1) : ElemInts enc P w base spare held t n := by
  intro fuel cs x h _ j hj
  exact ⟨_, (trod_arr_ints ht he hc h j hj).1⟩
theorem elem_struct {fs : Array Field} {t : TypeId} {c : Nat} (ht : P.underlying t = some (.struct fs)) (hf : ∀ j, j < c → ∃ f, fs[j]? = some f ∧ f.offset = j ∧ P.underlying f.type = some (.int .i64) ∧ P.cellsOf f.type = 1) : ElemInts enc P w base spare held t c := by
  intro fuel cs x h hl j hj
  obtain ⟨xs, n, _, _, hlen, hxl, hel⟩ := DataW.trod_struct ht h
  obtain ⟨f, hfj, ho, hu, hc⟩ := hf j hj
  have hjs : j < fs.size := by
    rcases Nat.lt_or_ge j fs.size with h | h
    · exact h
    · rw [Array.getElem?_eq_none h] at hfj; cases hfj
  have h1 := hel j f hfj
  rw [ho, hc] at h1
  have h2 : ∃ y, DataW.trod enc P w base spare held n f.type ((cs.drop j).take 1) = some y := ⟨_, h1.trans (List.getElem?_eq_getElem (by omega))⟩
  obtain ⟨y, hy⟩ := h2
  obtain ⟨z, hz, _, _⟩ := DataW.trod_int hu hy
  refine ⟨z, ?_⟩
  have := congrArg (fun l => l[0]?) hz
  simp only [List.getElem?_take, List.getElem?_drop] at this
  simpa using this
theorem open_argK {t e : TypeId} {c fuel : Nat} {a : Option Addr} {len cap : Nat} {x : DataW H × List MemPlace} (ht : P.underlying t = some (.slice e)) (hc : P.cellsOf e = c) (hc0 : 0 < c) (hE : ElemInts enc P w base spare held e c)
    (h : DataW.trod enc P w base spare held fuel t [.slice a len cap] = some x) : ∃ f : Nat → Nat → Int, ArgK w a len c f := by
  rcases DataW.trod_slice ht h with ⟨h0, -⟩ | ⟨ad, len', cap', elems, rest, n, -, hcs, -, -, hl, hm, hlen, hel, -, -⟩
  · simp at h0
    exact ⟨fun _ _ => 0, .inl h0.2.1⟩
  · simp only [List.cons.injEq, Value.slice.injEq, and_true] at hcs
    obtain ⟨rfl, rfl, rfl⟩ := hcs
    rcases Nat.eq_zero_or_pos len with e0 | e0
    · exact ⟨fun _ _ => 0, .inl e0⟩
    have each : ∀ i, i < len → ∀ j, j < c → ∃ z : Int, w.cell? ((ad.add (i * c)).add j) = some (.int .i64 z) := by
      intro i hi j hj
      have h1 := hel i hi
      have h2 : ∃ y, elems[i]? = some y := ⟨_, List.getElem?_eq_getElem (by omega)⟩
      obtain ⟨y, hy⟩ := h2
      rw [hy, hc] at h1
      rw [Option.bind_eq_some_iff] at h1
      obtain ⟨cs, hcs, hy'⟩ := h1
      obtain ⟨_, hn, hall⟩ := World.cells?_some hcs
      obtain ⟨z, hz⟩ := hE _ _ _ hy' hn j hj
      exact ⟨z, (hall j hj).trans hz⟩
    obtain ⟨z0, h0⟩ := each 0 e0 0 hc0
    obtain ⟨b, o, spot⟩ := ad
    have hs : spot = none := by simpa [Addr.add] using World.cell?_spot h0
    subst hs
    have ea : ∀ i, (⟨b, o, none⟩ : Addr).add i = ⟨b, o + i, none⟩ := fun i => by unfold Addr.add; split <;> simp_all
    have eb : ∀ p i, (⟨b, p, none⟩ : Addr).add i = ⟨b, p + i, none⟩ := fun p i => by unfold Addr.add; split <;> simp_all
    refine ⟨fun i j => numOf (w.cell? ⟨b, o + i * c + j, none⟩), .inr ⟨b, o, rfl, fun i hi j hj => ?_⟩⟩
    obtain ⟨z, hz⟩ := each i hi j hj
    rw [eb, eb] at hz
    simp only [hz, numOf]
end
end Go.Proofs.Ytnbiofcfphpikaa

namespace Go.Proofs.Ytnbiofcfphpikaa
open Go.ChangeShapes Go.WideShapes Go.RowKit

theorem wf_low {z : Int} (h : (Lit.int .i64 z).wf = true) : -9223372036854775808 ≤ z := by
  have e1 : IntKind.i64.min = -9223372036854775808 := by decide
  have e2 : IntKind.i64.max = 9223372036854775807 := by decide
  simp [Lit.wf, e1, e2] at h
  exact h.1
section
variable {H : Type} {enc : TypeId × Value → H} {P : Program} {w : World} {base : Nat} {spare : Nat → Bool} {held : Bool}

/-- An element is `c` integers. -/
def ElemIntsW (enc : TypeId × Value → H) (P : Program) (w : World) (base : Nat) (spare : Nat → Bool) (held : Bool) (e : TypeId) (c : Nat) : Prop :=
  ∀ fuel cs x, DataW.trod enc P w base spare held fuel e cs = some x → cs.length = c → ∀ j, j < c → ∃ z : Int, cs[j]? = some (.int .i64 z) ∧ -9223372036854775808 ≤ z
theorem elem_structW {fs : Array Field} {t : TypeId} {c : Nat} (ht : P.underlying t = some (.struct fs)) (hf : ∀ j, j < c → ∃ f, fs[j]? = some f ∧ f.offset = j ∧ P.underlying f.type = some (.int .i64) ∧ P.cellsOf f.type = 1) : ElemIntsW enc P w base spare held t c := by
  intro fuel cs x h hl j hj
  obtain ⟨xs, n, _, _, hlen, hxl, hel⟩ := DataW.trod_struct ht h
  obtain ⟨f, hfj, ho, hu, hc⟩ := hf j hj
  have hjs : j < fs.size := by
    rcases Nat.lt_or_ge j fs.size with h | h
    · exact h
    · rw [Array.getElem?_eq_none h] at hfj; cases hfj
  have h1 := hel j f hfj
  rw [ho, hc] at h1
  have h2 : ∃ y, DataW.trod enc P w base spare held n f.type ((cs.drop j).take 1) = some y := ⟨_, h1.trans (List.getElem?_eq_getElem (by omega))⟩
  obtain ⟨y, hy⟩ := h2
  obtain ⟨z, hz, _, hwf⟩ := DataW.trod_int hu hy
  refine ⟨z, ?_, wf_low hwf⟩
  have := congrArg (fun l => l[0]?) hz
  simp only [List.getElem?_take, List.getElem?_drop] at this
  simpa using this
theorem open_argKw {t e : TypeId} {c fuel : Nat} {a : Option Addr} {len cap : Nat} {x : DataW H × List MemPlace} (ht : P.underlying t = some (.slice e)) (hc : P.cellsOf e = c) (hc0 : 0 < c) (hE : ElemIntsW enc P w base spare held e c)
    (h : DataW.trod enc P w base spare held fuel t [.slice a len cap] = some x) : ∃ f : Nat → Nat → Int, ArgK w a len c f ∧ ∀ i j, i < len → j < c → -9223372036854775808 ≤ f i j := by
  rcases DataW.trod_slice ht h with ⟨h0, -⟩ | ⟨ad, len', cap', elems, rest, n, -, hcs, -, -, hl, hm, hlen, hel, -, -⟩
  · simp at h0
    exact ⟨fun _ _ => 0, .inl h0.2.1, fun i j hi => by have := h0.2.1; omega⟩
  · simp only [List.cons.injEq, Value.slice.injEq, and_true] at hcs
    obtain ⟨rfl, rfl, rfl⟩ := hcs
    rcases Nat.eq_zero_or_pos len with e0 | e0
    · exact ⟨fun _ _ => 0, .inl e0, fun i j hi => by omega⟩
    have each : ∀ i, i < len → ∀ j, j < c → ∃ z : Int, w.cell? ((ad.add (i * c)).add j) = some (.int .i64 z) ∧ -9223372036854775808 ≤ z := by
      intro i hi j hj
      have h1 := hel i hi
      have h2 : ∃ y, elems[i]? = some y := ⟨_, List.getElem?_eq_getElem (by omega)⟩
      obtain ⟨y, hy⟩ := h2
      rw [hy, hc] at h1
      rw [Option.bind_eq_some_iff] at h1
      obtain ⟨cs, hcs, hy'⟩ := h1
      obtain ⟨_, hn, hall⟩ := World.cells?_some hcs
      obtain ⟨z, hz, hlow⟩ := hE _ _ _ hy' hn j hj
      exact ⟨z, (hall j hj).trans hz, hlow⟩
    obtain ⟨z0, h0, _⟩ := each 0 e0 0 hc0
    obtain ⟨b, o, spot⟩ := ad
    have hs : spot = none := by simpa [Addr.add] using World.cell?_spot h0
    subst hs
    have ea : ∀ i, (⟨b, o, none⟩ : Addr).add i = ⟨b, o + i, none⟩ := fun i => by unfold Addr.add; split <;> simp_all
    have eb : ∀ p i, (⟨b, p, none⟩ : Addr).add i = ⟨b, p + i, none⟩ := fun p i => by unfold Addr.add; split <;> simp_all
    refine ⟨fun i j => numOf (w.cell? ⟨b, o + i * c + j, none⟩), .inr ⟨b, o, rfl, fun i hi j hj => ?_⟩, fun i j hi hj => ?_⟩
    · obtain ⟨z, hz, _⟩ := each i hi j hj
      rw [eb, eb] at hz
      simp only [hz, numOf]
    · obtain ⟨z, hz, hlow⟩ := each i hi j hj
      rw [eb, eb] at hz
      simp only [hz, numOf]
      exact hlow
end
end Go.Proofs.Ytnbiofcfphpikaa
