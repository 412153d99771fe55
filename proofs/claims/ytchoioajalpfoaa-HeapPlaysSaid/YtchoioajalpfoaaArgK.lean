/-
  What a law is told of an argument that is a slice of structs.
-/
import Derived.Test.YtchoioajalpfoaaArgs
namespace Go.Proofs.Ytchoioajalpfoaa
open Go.RowKit

/-- A slice of structs of c integers that came in. -/
def ArgK (w : World) (a : Option Addr) (len c : Nat) (f : Nat → Nat → Int) : Prop :=
  len = 0 ∨ ∃ b o, a = some ⟨b, o, none⟩ ∧ ∀ i, i < len → ∀ j, j < c → w.cell? ⟨b, o + i * c + j, none⟩ = some (.int .i64 (f i j))
theorem ArgK.get {w : World} {a : Option Addr} {len c : Nat} {f : Nat → Nat → Int} (h : ArgK w a len c f) {k : Nat} (hk : k < len) : ∃ b o, a = some ⟨b, o, none⟩ ∧ ∀ j, j < c → w.cell? ⟨b, o + k * c + j, none⟩ = some (.int .i64 (f k j)) := by
  rcases h with h | ⟨b, o, h1, h2⟩
  · omega
  · exact ⟨b, o, h1, h2 k hk⟩
theorem ArgK.keep {w w' : World} {a : Option Addr} {len c : Nat} {f : Nat → Nat → Int} (h : ArgK w a len c f) (hk : Keeps (fun _ => False) w w') : ArgK w' a len c f := by
  rcases h with h | ⟨b, o, h1, h2⟩
  · exact .inl h
  · exact .inr ⟨b, o, h1, fun i hi j hj => hk.cell0 (h2 i hi j hj)⟩
end Go.Proofs.Ytchoioajalpfoaa
