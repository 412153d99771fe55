/-
  What a law is told of an argument that is a slice of raw blocks; and of one that is a slice of integers, with each in its bounds.
-/
import Derived.Test.YtnflgjhgegggcaaFew7
import Derived.OpenShut
namespace Go.Proofs.Ytnflgjhgegggcaa
open Go.ChangeShapes Go.WideShapes Go.RowKit

/-- A raw block's cells. -/
def RawAt (w : World) (b p : Nat) (r : RawE) : Prop :=
  w.cell? ⟨b, p, none⟩ = some (.int .i64 r.kd) ∧ w.cell? ⟨b, p + 1, none⟩ = some (.int .i64 r.sz) ∧ w.cell? ⟨b, p + 2, none⟩ = some (.int .i64 r.ms) ∧ w.cell? ⟨b, p + 3, none⟩ = some (.slice r.wa r.wl r.wc) ∧
    Arg w r.wa r.wl (fun t => .int .i64 (r.ws t)) ∧ ∀ t, t < r.wl → -9223372036854775808 ≤ r.ws t
theorem lit_lo {z : Int} (h : (Lit.int .i64 z).wf = true) : -9223372036854775808 ≤ z := by
  have e1 : IntKind.i64.min = -9223372036854775808 := by decide
  have e2 : IntKind.i64.max = 9223372036854775807 := by decide
  simp [Lit.wf, e1, e2] at h
  exact h.1

section
variable {H : Type} {enc : TypeId × Value → H} {w : World} {base : Nat} {spare : Nat → Bool} {held : Bool}
theorem elem_raw {fuel : Nat} {cs : List Value} {x : DataW H × List MemPlace} (h : DataW.trod enc Try.prog w base spare held fuel 61 cs = some x) (hl : cs.length = 4) :
    ∃ r : RawE, cs = [.int .i64 r.kd, .int .i64 r.sz, .int .i64 r.ms, .slice r.wa r.wl r.wc] ∧ Arg w r.wa r.wl (fun t => .int .i64 (r.ws t)) ∧ ∀ t, t < r.wl → -9223372036854775808 ≤ r.ws t := by
  obtain ⟨xs, n, _, _, hlen, hxl, hel⟩ := DataW.trod_struct Try.underlying61 h
  have hci : Try.prog.cellsOf 3 = 1 := by kernel_rfl
  have hcs : Try.prog.cellsOf 29 = 1 := by kernel_rfl
  have e0 := hel 0 _ rfl
  have e1 := hel 1 _ rfl
  have e2 := hel 2 _ rfl
  have e3 := hel 3 _ rfl
  match cs, hl with
  | [v0, v1, v2, v3], _ =>
    have hxl' : xs.length = 4 := hxl
    have g : ∀ j, j < 4 → ∃ y, xs[j]? = some y := fun j hj => ⟨_, List.getElem?_eq_getElem (by omega)⟩
    obtain ⟨y0, hy0⟩ := g 0 (by omega)
    obtain ⟨y1, hy1⟩ := g 1 (by omega)
    obtain ⟨y2, hy2⟩ := g 2 (by omega)
    obtain ⟨y3, hy3⟩ := g 3 (by omega)
    rw [hy0] at e0
    rw [hy1] at e1
    rw [hy2] at e2
    rw [hy3] at e3
    replace e0 : DataW.trod enc Try.prog w base spare held n 3 (([v0, v1, v2, v3].drop 0).take (Try.prog.cellsOf 3)) = some y0 := e0
    replace e1 : DataW.trod enc Try.prog w base spare held n 3 (([v0, v1, v2, v3].drop 1).take (Try.prog.cellsOf 3)) = some y1 := e1
    replace e2 : DataW.trod enc Try.prog w base spare held n 3 (([v0, v1, v2, v3].drop 2).take (Try.prog.cellsOf 3)) = some y2 := e2
    replace e3 : DataW.trod enc Try.prog w base spare held n 29 (([v0, v1, v2, v3].drop 3).take (Try.prog.cellsOf 29)) = some y3 := e3
    rw [hci] at e0 e1 e2
    rw [hcs] at e3
    obtain ⟨z0, h0, _, _⟩ := DataW.trod_int (k := .i64) und_int e0
    obtain ⟨z1, h1, _, _⟩ := DataW.trod_int (k := .i64) und_int e1
    obtain ⟨z2, h2, _, _⟩ := DataW.trod_int (k := .i64) und_int e2
    simp at h0 h1 h2
    subst h0 h1 h2
    rcases open_ints Try.underlying_ints und_int hci e3 with ⟨h3, _⟩ | ⟨ad, l, c, zs, h3, _, hl', hm, hz, _, hcell, hwz⟩
    · simp at h3
      subst h3
      exact ⟨⟨z0, z1, z2, none, 0, 0, fun _ => 0⟩, rfl, .inl rfl, fun t ht => absurd ht (Nat.not_lt_zero _)⟩
    · simp at h3
      subst h3
      have hzl : l ≤ zs.length := by rw [hz]; split <;> omega
      refine ⟨⟨z0, z1, z2, some ad, l, c, fun t => zs.getD t 0⟩, rfl, arg_row fun t (ht : t < l) => hcell t (Nat.lt_of_lt_of_le ht hzl), fun t ht => ?_⟩
      have ht' : t < zs.length := Nat.lt_of_lt_of_le ht hzl
      show -9223372036854775808 ≤ zs.getD t 0
      rw [List.getD_eq_getElem?_getD, List.getElem?_eq_getElem ht']
      exact lit_lo (hwz _ (List.getElem_mem ht'))
theorem open_raws {fuel : Nat} {a : Option Addr} {len cap : Nat} {x : DataW H × List MemPlace} (h : DataW.trod enc Try.prog w base spare held fuel 28 [.slice a len cap] = some x) : ∃ R : Nat → RawE, RawArg w a len R := by
  have hc : Try.prog.cellsOf 61 = 4 := by kernel_rfl
  rcases DataW.trod_slice Try.underlying28 h with ⟨h0, -⟩ | ⟨ad, len', cap', elems, rest, n, -, hcs, -, -, hl, hm, hlen, hel, -, -⟩
  · simp at h0
    exact ⟨fun _ => ⟨0, 0, 0, none, 0, 0, fun _ => 0⟩, .inl h0.2.1⟩
  · simp only [List.cons.injEq, Value.slice.injEq, and_true] at hcs
    obtain ⟨rfl, rfl, rfl⟩ := hcs
    rcases Nat.eq_zero_or_pos len with e0 | e0
    · exact ⟨fun _ => ⟨0, 0, 0, none, 0, 0, fun _ => 0⟩, .inl e0⟩
    have each : ∀ i, i < len → ∃ r : RawE, (∀ j v, ([.int .i64 r.kd, .int .i64 r.sz, .int .i64 r.ms, .slice r.wa r.wl r.wc] : List Value)[j]? = some v → w.cell? ((ad.add (i * 4)).add j) = some v) ∧ Arg w r.wa r.wl (fun t => .int .i64 (r.ws t)) ∧ ∀ t, t < r.wl → -9223372036854775808 ≤ r.ws t := by
      intro i hi
      have h1 := hel i hi
      have h2 : ∃ y, elems[i]? = some y := ⟨_, List.getElem?_eq_getElem (by omega)⟩
      obtain ⟨y, hy⟩ := h2
      rw [hy, hc] at h1
      rw [Option.bind_eq_some_iff] at h1
      obtain ⟨cs, hcs, hy'⟩ := h1
      obtain ⟨_, hn, hall⟩ := World.cells?_some hcs
      obtain ⟨r, hr, ha, hlo⟩ := elem_raw hy' hn
      refine ⟨r, fun j v hj => ?_, ha, hlo⟩
      rw [← hr] at hj
      have hjl : j < 4 := by
        rcases Nat.lt_or_ge j 4 with h | h
        · exact h
        · rw [List.getElem?_eq_none (by omega)] at hj; cases hj
      exact (hall j hjl).trans hj
    obtain ⟨r0, h0, -⟩ := each 0 e0
    have h00 := h0 0 _ rfl
    obtain ⟨b, o, spot⟩ := ad
    have hs : spot = none := by simpa [Addr.add] using World.cell?_spot h00
    subst hs
    have eb : ∀ p i, (⟨b, p, none⟩ : Addr).add i = ⟨b, p + i, none⟩ := fun p i => by unfold Addr.add; split <;> simp_all
    have each' : ∀ i, ∃ r : RawE, i < len → RawAt w b (o + i * 4) r := by
      intro i
      by_cases hi : i < len
      · obtain ⟨r, h1, h2, h3⟩ := each i hi
        refine ⟨r, fun _ => ?_⟩
        have q := fun j v hj => h1 j v hj
        simp only [eb] at q
        exact ⟨q 0 _ rfl, q 1 _ rfl, q 2 _ rfl, q 3 _ rfl, h2, h3⟩
      · exact ⟨r0, fun h => absurd h hi⟩
    obtain ⟨R, hR⟩ := Classical.axiomOfChoice each'
    exact ⟨R, .inr ⟨b, o, rfl, fun i hi => hR i hi⟩⟩
/-- Integers that came in. -/
theorem open_intw {fuel : Nat} {a : Option Addr} {len cap : Nat} {x : DataW H × List MemPlace} (h : DataW.trod enc Try.prog w base spare held fuel 29 [.slice a len cap] = some x) : ∃ z : Nat → Int, ArgI w a len cap z := by
  have hci : Try.prog.cellsOf 3 = 1 := by kernel_rfl
  rcases open_ints Try.underlying_ints und_int hci h with ⟨h3, _⟩ | ⟨ad, l, c, zs, h3, _, hl', hm, hz, _, hcell, hwz⟩
  · simp at h3
    obtain ⟨rfl, rfl, rfl⟩ := h3
    exact ⟨fun _ => 0, .inl rfl, fun _ => rfl, fun i hi => absurd hi (Nat.not_lt_zero _)⟩
  · simp at h3
    obtain ⟨rfl, rfl, rfl⟩ := h3
    have hzl : len ≤ zs.length := by rw [hz]; split <;> omega
    refine ⟨fun i => zs.getD i 0, arg_row fun t ht => hcell t (by omega), fun h => (nomatch h), fun t ht => ?_⟩
    have ht' : t < zs.length := Nat.lt_of_lt_of_le ht hzl
    show (Lit.int .i64 (zs.getD t 0)).wf = true
    rw [List.getD_eq_getElem?_getD, List.getElem?_eq_getElem ht']
    exact hwz _ (List.getElem_mem ht')
end
end Go.Proofs.Ytnflgjhgegggcaa
