/-
  Blocks of any sizes, listed as they are made; words beside.
-/
import Derived.Test.YtnbiofcfphpikaaFill
namespace Go.Proofs.Ytnbiofcfphpikaa
namespace HS

theorem Wf.withWords {H : HS} (hW : H.Wf) (W : Nat → Int) : Wf { H with words := W } := ⟨hW.n2, hW.nb, hW.c0, hW.kind, hW.un, hW.uc, hW.lg, hW.mo⟩

/-- The blocks are L 0, .., L (m - 1). -/
structure Listed (H : HS) (N m : Nat) (L : Nat → Nat) : Prop where
  wf : H.Wf
  hn : H.n = N
  rooms : ∀ a, H.room a ≠ 0 ↔ ∃ j, j < m ∧ a = L j
  inj : ∀ i j, i < m → j < m → L i = L j → i = j

theorem Listed.withWords {H : HS} {N m : Nat} {L : Nat → Nat} (h : Listed H N m L) (W : Nat → Int) : Listed { H with words := W } N m L := ⟨h.wf.withWords W, h.hn, h.rooms, h.inj⟩
theorem Listed.add {H H' : HS} {N m a r : Nat} {L : Nat → Nat} (h : Listed H N m L) (hA : Adds H H' a r) : Listed H' N (m + 1) (setf L m a) := by
  have hnew : ∀ j, j < m → L j ≠ a := by
    intro j hj e
    have := (h.rooms (L j)).2 ⟨j, hj, rfl⟩
    rw [e] at this
    exact this hA.was
  refine ⟨hA.wf, hA.n.trans h.hn, fun b => ?_, ?_⟩
  · by_cases e : b = a
    · subst e
      rw [hA.is]
      exact ⟨fun _ => ⟨m, by omega, (setf_same _ _ _).symm⟩, fun _ => hA.pos⟩
    · rw [hA.other b e, h.rooms b]
      constructor
      · rintro ⟨j, hj, rfl⟩; exact ⟨j, by omega, (setf_ne _ _ (by omega)).symm⟩
      · rintro ⟨j, hj, rfl⟩
        by_cases e2 : j = m
        · subst e2; exact absurd (setf_same _ _ _) e
        · exact ⟨j, by omega, setf_ne _ _ e2⟩
  · intro i j hi hj he
    by_cases e1 : i = m
    · by_cases e2 : j = m
      · omega
      · rw [e1, setf_same, setf_ne _ _ e2] at he; exact absurd he.symm (hnew j (by omega))
    · by_cases e2 : j = m
      · rw [e2, setf_same, setf_ne _ _ e1] at he; exact absurd he (hnew i (by omega))
      · rw [setf_ne _ _ e1, setf_ne _ _ e2] at he; exact h.inj i j (by omega) (by omega) he
theorem Listed.rest {H : HS} {N m : Nat} {L : Nat → Nat} (h : Listed H N m L) : Rest H N m 0 L :=
  ⟨h.wf, h.hn, fun a => by rw [h.rooms a]; exact ⟨fun ⟨j, hj, e⟩ => ⟨j, by omega, hj, e⟩, fun ⟨j, _, hj, e⟩ => ⟨j, hj, e⟩⟩⟩
theorem Rest.listed {H : HS} {N n : Nat} {L C : Nat → Nat} (h : Rest H N n n C) : Listed H N 0 L :=
  ⟨h.wf, h.hn, fun a => by rw [h.rooms a]; exact ⟨fun ⟨j, h1, h2, _⟩ => by omega, fun ⟨j, hj, _⟩ => by omega⟩, fun i j hi => by omega⟩
theorem Listed.rest_done {H : HS} {N : Nat} {L : Nat → Nat} (h : Listed H N 0 L) : H.spans = N - 1 ∧ H.blocks = [] := Rest.done (n := 0) (B := L) h.rest
theorem new_listed {x : Nat} {L : Nat → Nat} (h1 : 128 ≤ x) (hw : (HS.new x).Wf) : Listed (HS.new x) (x / 64) 0 L := by
  have := new_run (q := 0) h1 hw
  exact ⟨hw, rfl, fun a => by rw [this.blocks a]; exact ⟨fun ⟨j, hj, _⟩ => by omega, fun ⟨j, hj, _⟩ => by omega⟩, fun i j hi => by omega⟩
theorem roomI_nat (H : HS) (a : Nat) : H.roomI (a : Int) = H.room a := by unfold roomI; rw [if_neg (by omega), Int.toNat_natCast]
end HS
end Go.Proofs.Ytnbiofcfphpikaa
