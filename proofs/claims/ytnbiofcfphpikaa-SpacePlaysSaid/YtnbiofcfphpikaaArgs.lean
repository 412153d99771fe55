/-
  Slices that came in, as the walks take them; small words on what a call keeps.
-/
import Derived.Test.YtnbiofcfphpikaaOwn
namespace Go.Proofs.Ytnbiofcfphpikaa
open Go.RowKit

theorem Keeps.cell {F : Nat → Prop} {a b : World} (h : Keeps F a b) {p : Addr} {v : Value} (hv : a.cell? p = some v) (hF : ¬ F p.block) : b.cell? p = some v := by
  have hlt := World.block_lt_of_cell? a p hv
  exact (World.cell?_of_block (h.block p.block hlt hF)).trans hv
theorem Keeps.cell0 {a b : World} (h : Keeps (fun _ => False) a b) {p : Addr} {v : Value} (hv : a.cell? p = some v) : b.cell? p = some v := h.cell hv (fun h => h)

/-- A slice that came in: its elements are f 0, .., f (len - 1). -/
def Arg (w : World) (a : Option Addr) (len : Nat) (f : Nat → Value) : Prop :=
  len = 0 ∨ ∃ b o, a = some ⟨b, o, none⟩ ∧ ∀ i, i < len → w.cell? ⟨b, o + i, none⟩ = some (f i)
theorem Arg.get {w : World} {a : Option Addr} {len : Nat} {f : Nat → Value} (h : Arg w a len f) {k : Nat} (hk : k < len) : ∃ b o, a = some ⟨b, o, none⟩ ∧ w.cell? ⟨b, o + k, none⟩ = some (f k) := by
  rcases h with h | ⟨b, o, h1, h2⟩
  · omega
  · exact ⟨b, o, h1, h2 k hk⟩
theorem Arg.keep {w w' : World} {a : Option Addr} {len : Nat} {f : Nat → Value} (h : Arg w a len f) (hk : Keeps (fun _ => False) w w') : Arg w' a len f := by
  rcases h with h | ⟨b, o, h1, h2⟩
  · exact .inl h
  · exact .inr ⟨b, o, h1, fun i hi => hk.cell0 (h2 i hi)⟩
theorem arg_row {w : World} {x : Addr} {len : Nat} {f : Nat → Value} (h : ∀ i, i < len → w.cell? (x.add i) = some (f i)) : Arg w (some x) len f := by
  rcases Nat.eq_zero_or_pos len with e | e
  · exact .inl e
  · right
    have h0 := h 0 e
    obtain ⟨b, o, spot⟩ := x
    have hs : spot = none := by simpa [Addr.add] using World.cell?_spot h0
    subst hs
    refine ⟨b, o, rfl, fun i hi => ?_⟩
    have := h i hi
    have ea : (⟨b, o, none⟩ : Addr).add i = ⟨b, o + i, none⟩ := by unfold Addr.add; split <;> simp_all
    rw [ea] at this
    exact this
end Go.Proofs.Ytnbiofcfphpikaa
