/-
  HeapApart: what its loops keep.
-/
import Derived.Test.YtchoioajalpfoaaSorted
import Derived.Test.YtchoioajalpfoaaGone
import Derived.Test.YtchoioajalpfoaaAnc
namespace Go.Proofs.Ytchoioajalpfoaa
open Go.RowKit
theorem Own.le {w : World} {T : TypeId} {a : Addr} {n c : Nat} {f : Nat → Value} (h : Own w T (.slice (some a) n c) n f) : n ≤ c := by
  rcases h with ⟨e, _⟩ | ⟨b, cap, cur, e, -, h1, -⟩
  · cases e
  · cases e; exact h1
theorem Own.cell {w : World} {T : TypeId} {g n c : Nat} {f : Nat → Value} (h : Own w T (.slice (some ⟨g, 0, none⟩) n c) n f) {i : Nat} (hi : i < n) : w.cell? ⟨g, i, none⟩ = some (f i) := by
  rcases h with ⟨e, _⟩ | ⟨b, cap, cur, e, hg, h1, -, -, h4⟩
  · cases e
  · cases e
    simp only [World.cell?, hg]
    simpa using h4 i hi
namespace ApartLaw

def Both (m : Nat) (va vr : Value) : Prop := (m = 0 ∧ va = .slice none 0 0 ∧ vr = .slice none 0 0) ∨ ∃ g1 c1 g2 c2, va = .slice (some ⟨g1, 0, none⟩) m c1 ∧ vr = .slice (some ⟨g2, 0, none⟩) m c2 ∧ m ≤ c1 ∧ m ≤ c2
/-- The blocks L 0, .., L (m - 1), each full of its own address; two lists: va their addresses, vr their rooms. -/
structure Ap (w wr : World) (B : HB) (N m : Nat) (L : Nat → Nat) (va vr : Value) (H : HS) : Prop where
  listed : HS.Listed H N m L
  fresh : Fresh w wr B H
  own : Own wr 3 va m (fun i => .int .i64 (L i : Nat))
  ownr : Own wr 3 vr m (fun i => .int .i64 (H.room (L i) : Nat))
  hv : ∀ g, va.ownBlock = some g → ¬ B.fp g ∧ w.heap.size ≤ g
  hr : ∀ g, vr.ownBlock = some g → ¬ B.fp g ∧ w.heap.size ≤ g
  apart : ∀ g, va.ownBlock = some g → vr.ownBlock ≠ some g
  both : Both m va vr
  full : ∀ i, i < m → ∀ j, j < H.room (L i) → H.words (L i + j) = (L i : Int)
/-- .. and a new block a, k of whose words are written. -/
structure Aq (w wr : World) (B : HB) (N m : Nat) (L : Nat → Nat) (va vr : Value) (H : HS) (a k : Nat) : Prop where
  listed : HS.Listed H N (m + 1) (setf L m a)
  fresh : Fresh w wr B H
  own : Own wr 3 va m (fun i => .int .i64 (L i : Nat))
  ownr : Own wr 3 vr m (fun i => .int .i64 (H.room (L i) : Nat))
  hv : ∀ g, va.ownBlock = some g → ¬ B.fp g ∧ w.heap.size ≤ g
  hr : ∀ g, vr.ownBlock = some g → ¬ B.fp g ∧ w.heap.size ≤ g
  apart : ∀ g, va.ownBlock = some g → vr.ownBlock ≠ some g
  both : Both m va vr
  full : ∀ i, i < m → ∀ j, j < H.room (L i) → H.words (L i + j) = (L i : Int)
  mine : ∀ j, j < k → H.words (a + j) = (a : Int)
  zero : ∀ j, k ≤ j → j < H.room a → H.words (a + j) = 0

section
variable {w wr w2 : World} {B : HB} {N m a k r : Nat} {L : Nat → Nat} {va vr : Value} {H H' : HS}
theorem Ap.drewN (h : Ap w wr B N m L va vr H) (q : Nat) : Ap w (wr.drewN q) B N m L va vr H := ⟨h.listed, h.fresh.drewN q, h.own.drewN q, h.ownr.drewN q, h.hv, h.hr, h.apart, h.both, h.full⟩
theorem Aq.drewN (h : Aq w wr B N m L va vr H a k) (q : Nat) : Aq w (wr.drewN q) B N m L va vr H a k := ⟨h.listed, h.fresh.drewN q, h.own.drewN q, h.ownr.drewN q, h.hv, h.hr, h.apart, h.both, h.full, h.mine, h.zero⟩
theorem Ap.made (h : Ap w wr B N m L va vr H) (hAd : HS.Adds H H' a r) (hA : HeapAt w2 B H') (hK : Keeps B.wr wr w2) : Aq w w2 B N m L va vr H' a 0 := by
  have hne : ∀ i, i < m → L i ≠ a := by
    intro i hi e
    have := (h.listed.rooms (L i)).2 ⟨i, hi, rfl⟩
    rw [e] at this
    exact this hAd.was
  have hroom : ∀ i, i < m → H'.room (L i) = H.room (L i) := fun i hi => hAd.other _ (hne i hi)
  refine ⟨h.listed.add hAd, h.fresh.on hA hK, h.own.keep hK (fun b hb hw => (h.hv b hb).1 (.inr hw)), (h.ownr.keep hK (fun b hb hw => (h.hr b hb).1 (.inr hw))).congr (fun i hi => by rw [hroom i hi]), h.hv, h.hr, h.apart, h.both, fun i hi j hj => ?_, fun j hj => by omega, fun j _ hj => ?_⟩
  · rw [hroom i hi] at hj
    have hr0 : H.room (L i) ≠ 0 := (h.listed.rooms (L i)).2 ⟨i, hi, rfl⟩
    have := hAd.wf.apart (a := L i) (b := a) (by rw [hroom i hi]; exact hr0) (by rw [hAd.is]; exact hAd.pos) (hne i hi)
    rw [hroom i hi, hAd.is] at this
    rw [hAd.words, setr_out _ _ (by omega)]
    exact h.full i hi j hj
  · rw [hAd.is] at hj
    rw [hAd.words]
    exact setr_in _ _ (by omega) (by omega)
theorem Aq.store (h : Aq w wr B N m L va vr H a k) (hk : k < H.room a) (hA : HeapAt w2 B { H with words := setf H.words (a + k) (a : Int) }) (hK : Keeps B.wr wr w2) :
    Aq w w2 B N m L va vr { H with words := setf H.words (a + k) (a : Int) } a (k + 1) := by
  refine ⟨h.listed.withWords _, h.fresh.on hA hK, h.own.keep hK (fun b hb hw => (h.hv b hb).1 (.inr hw)), h.ownr.keep hK (fun b hb hw => (h.hr b hb).1 (.inr hw)), h.hv, h.hr, h.apart, h.both, fun i hi j hj => ?_, fun j hj => ?_, fun j h1 h2 => ?_⟩
  · have hne : L i ≠ a := by
      intro e
      have := h.listed.inj i m (by omega) (by omega) (by rw [setf_ne _ _ (by omega), setf_same]; exact e)
      omega
    have hr0 : H.room (L i) ≠ 0 := (h.listed.rooms (L i)).2 ⟨i, by omega, by rw [setf_ne _ _ (by omega)]⟩
    have hj' : j < H.room (L i) := hj
    have := h.listed.wf.apart (a := L i) (b := a) hr0 (by omega) hne
    show setf H.words (a + k) (a : Int) (L i + j) = _
    rw [setf_ne _ _ (by omega)]
    exact h.full i hi j hj'
  · show setf H.words (a + k) (a : Int) (a + j) = _
    by_cases e : j = k
    · subst e; exact setf_same _ _ _
    · rw [setf_ne _ _ (by omega)]; exact h.mine j (by omega)
  · show setf H.words (a + k) (a : Int) (a + j) = _
    rw [setf_ne _ _ (by omega)]
    exact h.zero j (by omega) h2
theorem Aq.gone (h : Aq w wr B N m L va vr H a k) (hA : HeapAt w2 B (H.freeAt a)) (hK : Keeps B.wr wr w2) : Ap w w2 B N m L va vr (H.freeAt a) := by
  have ha : H.room a ≠ 0 := (h.listed.rooms a).2 ⟨m, by omega, by rw [setf_same]⟩
  have hT := h.listed.wf.free_takes ha
  have hne : ∀ i, i < m → L i ≠ a := by
    intro i hi e
    have := h.listed.inj i m (by omega) (by omega) (by rw [setf_ne _ _ (by omega), setf_same]; exact e)
    omega
  have hroom : ∀ i, i < m → (H.freeAt a).room (L i) = H.room (L i) := fun i hi => hT.other _ (hne i hi)
  refine ⟨⟨hT.wf, hT.n.trans h.listed.hn, fun b => ?_, fun i j hi hj e => h.listed.inj i j (by omega) (by omega) (by rw [setf_ne _ _ (by omega), setf_ne _ _ (by omega)]; exact e)⟩, h.fresh.on hA hK, h.own.keep hK (fun b hb hw => (h.hv b hb).1 (.inr hw)), (h.ownr.keep hK (fun b hb hw => (h.hr b hb).1 (.inr hw))).congr (fun i hi => by rw [hroom i hi]), h.hv, h.hr, h.apart, h.both, fun i hi j hj => ?_⟩
  · by_cases e : b = a
    · subst e
      rw [hT.is]
      exact ⟨fun h => absurd rfl h, fun ⟨j, hj, e⟩ => absurd e.symm (hne j hj)⟩
    · rw [hT.other b e, h.listed.rooms b]
      constructor
      · rintro ⟨j, hj, rfl⟩
        by_cases e2 : j = m
        · subst e2; rw [setf_same] at e; exact absurd rfl e
        · exact ⟨j, by omega, by rw [setf_ne _ _ e2]⟩
      · rintro ⟨j, hj, rfl⟩
        exact ⟨j, by omega, by rw [setf_ne _ _ (by omega)]⟩
  · rw [hroom i hi] at hj
    rw [hT.words]
    exact h.full i hi j hj
theorem Aq.push {wa wb : World} {o1 o2 : Obj} {g1 c1 g2 c2 : Nat} (h : Aq w wr B N m L va vr H a k) (hk : k = H.room a)
    (hO1 : Own wa 3 (.slice (some ⟨g1, 0, none⟩) (m + 1) c1) (m + 1) (setf (fun i => .int .i64 (L i : Nat)) m (.int .i64 (a : Nat))))
    (hK1 : Keeps (fun b => va.ownBlock = some b) (wr.alloc o1) wa) (hg1 : va.ownBlock = some g1 ∨ g1 = (wr.alloc o1).heap.size)
    (hO2 : Own wb 3 (.slice (some ⟨g2, 0, none⟩) (m + 1) c2) (m + 1) (setf (fun i => .int .i64 (H.room (L i) : Nat)) m (.int .i64 (H.room a : Nat))))
    (hK2 : Keeps (fun b => vr.ownBlock = some b) (wa.alloc o2) wb) (hg2 : vr.ownBlock = some g2 ∨ g2 = (wa.alloc o2).heap.size) :
    Ap w wb B N (m + 1) (setf L m a) (.slice (some ⟨g1, 0, none⟩) (m + 1) c1) (.slice (some ⟨g2, 0, none⟩) (m + 1) c2) H := by
  have hs1 : (wr.alloc o1).heap.size = wr.heap.size + 1 := by simp
  have hs2 : (wa.alloc o2).heap.size = wa.heap.size + 1 := by simp
  have hz1 := hK1.size
  have hwr := h.fresh.2.1.size
  have hfp : ∀ b, B.fp b → b < wr.heap.size := fun b hb => by
    rcases hb with rfl | rfl | rfl | rfl | rfl
    · exact heap_lt h.fresh.1.hd
    · exact h.fresh.1.wd.lt
    · exact h.fresh.1.cl.lt
    · exact h.fresh.1.us.lt
    · exact h.fresh.1.rn.lt
  have hvlt : ∀ b, va.ownBlock = some b → b < wr.heap.size := fun b hb => h.own.lt b hb
  have hrlt : ∀ b, vr.ownBlock = some b → b < wr.heap.size := fun b hb => h.ownr.lt b hb
  have hg1lt : g1 < wa.heap.size := hO1.lt g1 rfl
  have hK1' : Keeps (fun b => va.ownBlock = some b) wr wa := ((Keeps.refl _ wr).alloc o1).trans hK1 (fun _ _ h => h)
  have hK2' : Keeps (fun b => vr.ownBlock = some b) wa wb := ((Keeps.refl _ wa).alloc o2).trans hK2 (fun _ _ h => h)
  have hg12 : vr.ownBlock ≠ some g1 := by
    intro e
    rcases hg1 with h1 | h1
    · exact h.apart g1 h1 e
    · have := hrlt g1 e; omega
  refine ⟨h.listed, ⟨?_, ?_, h.fresh.2.2⟩, (hO1.keep hK2' (fun b hb e => ?_)).congr (fun i hi => by unfold setf; split <;> rfl), hO2.congr (fun i hi => by unfold setf; split <;> rfl), fun b hb => ?_, fun b hb => ?_, fun b hb e => ?_, .inr ⟨_, _, _, _, rfl, rfl, hO1.le, hO2.le⟩, fun i hi j hj => ?_⟩
  · exact (h.fresh.1.keep hK1' (fun b hb hvb => (h.hv b hvb).1 hb)).keep hK2' (fun b hb hvb => (h.hr b hvb).1 hb)
  · exact (h.fresh.2.1.trans hK1' (fun b hb hvb => by have := (h.hv b hvb).2; omega)).trans hK2' (fun b hb hvb => by have := (h.hr b hvb).2; omega)
  · simp [Value.ownBlock] at hb
    subst hb
    exact hg12 e
  · simp [Value.ownBlock] at hb
    subst hb
    rcases hg1 with e | e
    · exact h.hv _ e
    · exact ⟨fun hf => by have := hfp _ hf; omega, by omega⟩
  · simp [Value.ownBlock] at hb
    subst hb
    rcases hg2 with e | e
    · exact h.hr _ e
    · exact ⟨fun hf => by have := hfp _ hf; omega, by omega⟩
  · simp [Value.ownBlock] at hb e
    subst hb
    rcases hg2 with e2 | e2
    · rw [e] at e2; exact hg12 e2
    · omega
  · by_cases e : i = m
    · subst e
      rw [setf_same] at hj ⊢
      exact h.mine j (by omega)
    · rw [setf_ne _ _ e] at hj ⊢
      exact h.full i (by omega) j hj
end
end ApartLaw
end Go.Proofs.Ytchoioajalpfoaa
