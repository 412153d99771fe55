/-
  SpaceDrops: the plain law.
-/
import Derived.Test.YtnbiofcfphpikaaA12
namespace Go.Proofs.Ytnbiofcfphpikaa
open Go.RowKit

/-- What is held: each word twice. -/
def heldL (A : Nat → Nat) (L : Nat) : List Int := (List.range L).map fun t => ((A (t / 2) : Nat) : Int)
theorem heldL_length (A : Nat → Nat) (L : Nat) : (heldL A L).length = L := by simp [heldL]
theorem heldL_take (A : Nat → Nat) {L M : Nat} (h : M ≤ L) : (heldL A L).take M = heldL A M := by
  unfold heldL
  rw [← List.map_take, List.take_range, Nat.min_eq_left h]
theorem heldL_one (A : Nat → Nat) (j : Nat) : heldL A (2 * j) ++ [((A j : Nat) : Int)] = heldL A (2 * j + 1) := by
  unfold heldL
  rw [List.range_succ, List.map_append]
  simp
theorem heldL_two (A : Nat → Nat) (j : Nat) : heldL A (2 * j + 1) ++ [((A j : Nat) : Int)] = heldL A (2 * (j + 1)) := by
  have e : List.range (2 * (j + 1)) = List.range (2 * j + 1) ++ [2 * j + 1] := by rw [show 2 * (j + 1) = (2 * j + 1) + 1 by omega, List.range_succ]
  unfold heldL
  rw [e, List.map_append, List.map_singleton, show (2 * j + 1) / 2 = j by omega]
theorem heldL_congr {A B : Nat → Nat} {L : Nat} (h : ∀ t, t < L → A (t / 2) = B (t / 2)) : heldL A L = heldL B L := by
  unfold heldL
  refine List.map_congr_left fun t ht => ?_
  rw [h t (List.mem_range.1 ht)]
theorem mem_heldL {A : Nat → Nat} {L : Nat} {x : Int} : x ∈ heldL A L ↔ ∃ i, i < (L + 1) / 2 ∧ x = (A i : Int) := by
  unfold heldL
  rw [List.mem_map]
  constructor
  · rintro ⟨t, ht, rfl⟩
    have := List.mem_range.1 ht
    exact ⟨t / 2, by omega, rfl⟩
  · rintro ⟨i, hi, rfl⟩
    exact ⟨2 * i, List.mem_range.2 (by omega), by rw [show 2 * i / 2 = i by omega]⟩

namespace HS
theorem kidsTo_data (H : HS) (a : Nat) (mask : Int) : ∀ n, H.kidsTo a 1 mask n = []
  | 0 => rfl
  | n + 1 => by
    unfold kidsTo
    rw [kidsTo_data H a mask n, if_neg]
    · rfl
    · intro h
      have := h.1
      unfold mayRef at this
      simp at this
theorem kids_data {H : HS} {a : Nat} {s m : Int} (hk : hdrOk 1 s m) (h : H.words a = hdr 1 s m) : H.kids a = [] := by
  have hp := hdr_parts hk
  unfold kids
  rw [h, hp.2.2.2.1, if_pos rfl, hp.1]
  exact kidsTo_data H a _ _

structure DS (H : HS) (A : Nat → Nat) (m F : Nat) : Prop where
  l : Listed H 64 m A
  data : ∀ i, i < m → H.words (A i) = hdr 1 1 0
  front : Front H F
theorem DS.start : DS (HS.new 4096) id 0 1 := by
  have hl : Listed (HS.new 4096) 64 0 id := new_listed (by omega) (new_wf (by omega) (by omega))
  exact ⟨hl, fun i hi => by omega, fun a ha => by obtain ⟨j, hj, _⟩ := (hl.rooms a).1 ha; omega⟩
theorem DS.make {H H' : HS} {A : Nat → Nat} {m F a : Nat} (h : DS H A m F) (hA : Adds H H' a (roomOf 2)) (hF : Front H' (F + 1)) : DS (H'.headed a 1 1 0) (setf A m a) (m + 1) (F + 1) := by
  have hl := (h.l.add hA).withWords (setf H'.words a (hdr 1 1 0))
  refine ⟨hl, fun i hi => ?_, hF⟩
  show setf H'.words a (hdr 1 1 0) (setf A m a i) = _
  by_cases e : i = m
  · subst e; rw [setf_same, setf_same]
  · have hi' : i < m := by omega
    have hr := (h.l.rooms (A i)).2 ⟨i, hi', rfl⟩
    have hne : A i ≠ a := by intro e; rw [e] at hr; exact hr hA.was
    rw [setf_ne _ _ e, setf_ne _ _ hne, hA.words]
    have hr' : H'.room (A i) ≠ 0 := by rw [hA.other _ hne]; exact hr
    have := hA.wf.apart hr' (by rw [hA.is]; exact hA.pos) hne
    rw [hA.is] at this
    rw [setr_out _ _ (by have := hA.wf.inside hr'; omega)]
    exact h.data i hi'
theorem DS.live {H : HS} {A : Nat → Nat} {m F L : Nat} (h : DS H A m F) (hL : (L + 1) / 2 ≤ m) (b : Nat) : H.Live (heldL A L) b ↔ ∃ i, i < (L + 1) / 2 ∧ b = A i := by
  constructor
  · intro hb
    have key : ∀ x, H.Live (heldL A L) x → ∃ i, i < (L + 1) / 2 ∧ x = (A i : Int) := by
      intro x hx
      induction hx with
      | root hx _ => exact mem_heldL.1 hx
      | step _ hy ih =>
        obtain ⟨i, hi, rfl⟩ := ih
        rw [Int.toNat_natCast, kids_data (by unfold hdrOk; omega) (h.data i (by omega))] at hy
        cases hy
    obtain ⟨i, hi, e⟩ := key _ hb
    exact ⟨i, hi, by omega⟩
  · rintro ⟨i, hi, rfl⟩
    refine .root (mem_heldL.2 ⟨i, hi, rfl⟩) ?_
    unfold isRef
    rw [roomI_cast]
    exact decide_eq_true ((h.l.rooms _).2 ⟨i, by omega, rfl⟩)
theorem DS.sweep {H H1 : HS} {A : Nat → Nat} {m F L c : Nat} (h : DS H A m F) (hL : (L + 1) / 2 ≤ m) (hs : Swept H H1 (heldL A L) c) : DS H1 A ((L + 1) / 2) F := by
  have hroom : ∀ a, H1.room a ≠ 0 ↔ ∃ j, j < (L + 1) / 2 ∧ a = A j := by
    intro a
    rw [← h.live hL a]
    constructor
    · intro ha
      apply Classical.byContradiction
      intro hn
      exact ha (hs.gone a hn)
    · intro ha
      rw [hs.kept a ha]
      obtain ⟨i, hi, rfl⟩ := (h.live hL a).1 ha
      exact (h.l.rooms _).2 ⟨i, by omega, rfl⟩
  refine ⟨⟨hs.wf, hs.n.trans h.l.hn, hroom, fun i j hi hj e => h.l.inj i j (by omega) (by omega) e⟩, fun i hi => ?_, fun a ha => ?_⟩
  · rw [hs.words]; exact h.data i (by omega)
  · have hl := (h.live hL a).2 ((hroom a).1 ha)
    rw [hs.kept a hl] at ha ⊢
    exact h.front a ha
theorem DS.count {H : HS} {A : Nat → Nat} {m F : Nat} (h : DS H A m F) : H.blocks.length = m := by
  have hnd : ((List.range m).map A).Nodup := by
    refine List.pairwise_map.2 ?_
    have := List.nodup_range (n := m)
    exact List.Pairwise.imp_of_mem (fun {a b} ha hb hne e => hne (h.l.inj a b (List.mem_range.1 ha) (List.mem_range.1 hb) e)) this
  rw [h.l.wf.count hnd fun a => ?_]
  · simp
  · rw [h.l.rooms a, List.mem_map]
    exact ⟨fun ⟨j, hj, e⟩ => ⟨j, List.mem_range.1 hj, e.symm⟩, fun ⟨j, hj, e⟩ => ⟨j, List.mem_range.2 hj, e.symm⟩⟩
theorem DS.mono {H : HS} {A : Nat → Nat} {m F G : Nat} (h : DS H A m F) (hG : F ≤ G) : DS H A m G := ⟨h.l, h.data, h.front.mono hG⟩
end HS
end Go.Proofs.Ytnbiofcfphpikaa
