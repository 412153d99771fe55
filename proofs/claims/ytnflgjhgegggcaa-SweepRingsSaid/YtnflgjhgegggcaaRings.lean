/-
  SweepRings: the plain part.
-/
import Derived.Test.YtnflgjhgegggcaaDeep
import Derived.Test.YtnflgjhgegggcaaW8
namespace Go.Proofs.Ytnflgjhgegggcaa
open Go.RowKit

namespace Rings
def F1 (w wr : World) (B : HB) (P : Nat → HS → Prop) (A : Nat → Nat) (k : Nat) (v : Value) : Prop :=
  ∃ H, P k H ∧ Fresh w wr B H ∧ Own wr 3 v k (fun j => .int .i64 (A j : Nat)) ∧ ∀ g, v.ownBlock = some g → ¬ B.fp g ∧ w.heap.size ≤ g
theorem F1.step {w wr wa wb : World} {B : HB} {P : Nat → HS → Prop} {A : Nat → Nat} {k : Nat} {v : Value} {H H' : HS} {g cap : Nat} {o : Obj} (hf : Fresh w wr B H) (hs : P (k + 1) H')
    (hv : ∀ g, v.ownBlock = some g → ¬ B.fp g ∧ w.heap.size ≤ g) (hA : HeapAt wa B H') (hK : Keeps B.wr wr wa) (hb : Own wb 3 (.slice (some ⟨g, 0, none⟩) (k + 1) cap) (k + 1) (setf (fun j => .int .i64 (A j : Nat)) k (.int .i64 (A k : Nat))))
    (hk : Keeps (fun b => v.ownBlock = some b) (wa.alloc o) wb) (hg : v.ownBlock = some g ∨ g = (wa.alloc o).heap.size) : F1 w wb B P A (k + 1) (.slice (some ⟨g, 0, none⟩) (k + 1) cap) := by
  have h1 := hf.on hA hK
  have hlt := hA.lt
  refine ⟨H', hs, ⟨?_, ?_, h1.2.2⟩, hb.congr (fun i hi => ?_), ?_⟩
  · exact (hA.keep ((Keeps.refl (fun _ => False) _).alloc o) (fun _ _ h => h)).keep hk (fun b hb hvb => (hv b hvb).1 hb)
  · exact (h1.2.1.alloc o).trans hk (fun b hb hvb => by have := (hv b hvb).2; omega)
  · unfold setf; split
    · rename_i e; rw [e]
    · rfl
  · intro g' hg'
    simp [Value.ownBlock] at hg'
    subst hg'
    rcases hg with e | e
    · exact hv g e
    · have hsz : wa.heap.size ≤ g := by rw [e]; simp
      refine ⟨fun hb => ?_, ?_⟩
      · have := hlt g hb; omega
      · have := h1.2.1.size; omega
/-- k blocks of four words, all zero. -/
def P0 (k : Nat) (H : HS) : Prop := HS.SeqH H 64 4 k ∧ ∀ j, j < k → ∀ i, i < 4 → H.words (HS.seqAt 4 j + i) = 0
theorem P0.start : P0 0 (HS.new 4096) := ⟨HS.new_seq (x := 4096) (by omega) (new_wf (by omega) (by omega)), fun j hj => by omega⟩
theorem P0.step {k : Nat} {H : HS} (h : P0 k H) (hk : k < 60) : ∃ H1, H.alloc (4 : Int) = some (HS.seqAt 4 k, H1) ∧ P0 (k + 1) H1 := by
  obtain ⟨H1, ha, hs⟩ := h.1.step (x := 4) cl4 (by omega) (by omega) (by decide) (by omega)
  refine ⟨H1, ha, hs, fun j hj i hi => ?_⟩
  have hadd := (h.1.wf.alloc_adds ha).2.2
  have hro : HS.roomOf (Int.toNat 4) = 4 := by decide
  rw [show ((4 : Nat) : Int) = 4 from rfl, hro] at hadd
  have hk2 := seqAt4 k
  have hj2 := seqAt4 j
  rw [hadd.words]
  by_cases e : j = k
  · subst e
    rw [setr_in _ _ (by omega) (by omega)]
  · rw [setr_out _ _ (by omega)]
    exact h.2 j (by omega) i hi
/-- The three kinds. -/
def Kd (kd mk : Int) (pl : Nat) : Prop := (kd = 2 ∧ mk = 0 ∧ pl = 1) ∨ (kd = 3 ∧ mk = 1 ∧ pl = 2) ∨ (kd = 4 ∧ mk = 1 ∧ pl = 1)
def nxt (n j : Nat) : Nat := HS.seqAt 4 ((j + 1) % n)
/-- k blocks are laid. -/
structure RW (w wr : World) (B : HB) (b cap n : Nat) (kd mk : Int) (pl : Nat) (H : HS) (k : Nat) : Prop where
  seq : HS.SeqH H 64 4 n
  fresh : Fresh w wr B H
  own : Own wr 3 (.slice (some ⟨b, 0, none⟩) n cap) n (fun j => .int .i64 (HS.seqAt 4 j : Nat))
  nb : ¬ B.fp b ∧ w.heap.size ≤ b
  words : ∀ j, j < n → ∀ i, i < 4 → H.words (HS.seqAt 4 j + i) = if j < k then (if i = 0 then hdr kd 2 mk else if i = pl then (nxt n j : Nat) else 0) else 0
section
variable {w wr : World} {B : HB} {b cap n : Nat} {kd mk : Int} {pl : Nat} {H : HS} {k : Nat}
theorem RW.of {v : Value} (h : F1 w wr B P0 (HS.seqAt 4) n v) (hn : 0 < n) : ∃ b cap H, v = .slice (some ⟨b, 0, none⟩) n cap ∧ RW w wr B b cap n kd mk pl H 0 := by
  obtain ⟨H, hp, hf, ho, hv⟩ := h
  obtain ⟨b, cap, rfl, -⟩ := ho.some_shape hn
  exact ⟨b, cap, H, rfl, hp.1, hf, ho, hv b rfl, fun j hj i hi => by rw [hp.2 j hj i hi]; simp⟩
theorem RW.cell (h : RW w wr B b cap n kd mk pl H k) {j : Nat} (hj : j < n) : wr.cell? ⟨b, j, none⟩ = some (.int .i64 (HS.seqAt 4 j : Nat)) := by
  obtain ⟨b', cap', e, -, -, hc, -⟩ := h.own.some_shape (by omega)
  cases e
  exact hc j hj
theorem RW.listed (h : RW w wr B b cap n kd mk pl H k) (hn : n ≤ 60) : HS.Listed H 64 n (HS.seqAt 4) ∧ ∀ j, j < n → H.room (HS.seqAt 4 j) = 4 := SeqH.listed h.seq cl4 (by omega)
theorem RW.room (h : RW w wr B b cap n kd mk pl H k) (hn : n ≤ 60) {j : Nat} (hj : j < n) : H.room (HS.seqAt 4 j) = 4 := (h.listed hn).2 j hj
theorem RW.step {wa : World} (h : RW w wr B b cap n kd mk pl H k) (hp : pl = 1 ∨ pl = 2) (hk : k < n) (hA : HeapAt wa B { H with words := setf (setf H.words (HS.seqAt 4 k + 0) (hdr kd 2 mk)) (HS.seqAt 4 k + pl) (nxt n k : Nat) }) (hK : Keeps B.wr wr wa) :
    RW w wa B b cap n kd mk pl { H with words := setf (setf H.words (HS.seqAt 4 k + 0) (hdr kd 2 mk)) (HS.seqAt 4 k + pl) (nxt n k : Nat) } (k + 1) := by
  refine ⟨SeqH.words h.seq _, h.fresh.on hA hK, h.own.keep hK (fun c hc hw => ?_), h.nb, fun j hj i hi => ?_⟩
  · simp [Value.ownBlock] at hc
    subst hc
    exact h.nb.1 (.inr hw)
  · have hj2 := seqAt4 j
    have hk2 := seqAt4 k
    show setf (setf H.words _ _) _ _ _ = _
    by_cases e : j = k
    · subst e
      rw [if_pos (by omega)]
      by_cases h0 : i = 0
      · rw [if_pos h0, setf_ne _ _ (by omega), h0, setf_same]
      · rw [if_neg h0]
        by_cases h1 : i = pl
        · rw [if_pos h1, h1, setf_same]
        · rw [if_neg h1, setf_ne _ _ (by omega), setf_ne _ _ (by omega), h.words j hj i hi, if_neg (by omega)]
    · rw [setf_ne _ _ (by omega), setf_ne _ _ (by omega), h.words j hj i hi]
      by_cases h1 : j < k
      · rw [if_pos h1, if_pos (c := j < k + 1) (by omega)]
      · rw [if_neg h1, if_neg (c := j < k + 1) (by omega)]
theorem RW.isRef (h : RW w wr B b cap n kd mk pl H k) (hn : n ≤ 60) {j : Nat} (hj : j < n) : H.isRef ((HS.seqAt 4 j : Nat) : Int) = true := by
  unfold HS.isRef
  rw [HS.roomI_nat, h.room hn hj]
  rfl
theorem RW.kids (h : RW w wr B b cap n kd mk pl H n) (hn : n ≤ 60) (hq : Kd kd mk pl) {j : Nat} (hj : j < n) : H.kids (HS.seqAt 4 j) = [((nxt n j : Nat) : Int)] := by
  have hp := hdr_parts (k := kd) (s := 2) (m := mk) (by unfold hdrOk; rcases hq with ⟨rfl, rfl, rfl⟩ | ⟨rfl, rfl, rfl⟩ | ⟨rfl, rfl, rfl⟩ <;> omega)
  have hm : (j + 1) % n < n := Nat.mod_lt _ (by omega)
  have e1 : H.isRef ((nxt n j : Nat) : Int) = true := h.isRef hn hm
  have e0 : H.isRef 0 = false := by
    cases he : H.isRef 0 with
    | false => rfl
    | true => have := HS.isRef_pos h.seq.wf he; omega
  have w0 := h.words j hj 0 (by omega)
  have w1 := h.words j hj 1 (by omega)
  have w2 := h.words j hj 2 (by omega)
  rw [if_pos hj] at w0 w1 w2
  rw [if_pos rfl, Nat.add_zero] at w0
  rw [if_neg (by omega)] at w1 w2
  unfold HS.kids
  rw [w0, hp.2.2.2.1, if_pos rfl, hp.1, hp.2.1, hp.2.2.1, h.room hn hj]
  show H.kidsTo (HS.seqAt 4 j) kd mk 2 = _
  simp only [HS.kidsTo, List.nil_append, Nat.add_zero, show HS.seqAt 4 j + 1 + 1 = HS.seqAt 4 j + 2 by omega, w1, w2]
  rcases hq with ⟨rfl, rfl, rfl⟩ | ⟨rfl, rfl, rfl⟩ | ⟨rfl, rfl, rfl⟩
  · simp [mayRef, e0, e1]
  · simp [mayRef, e0, e1]
  · simp [mayRef, e0, e1]
theorem RW.live (h : RW w wr B b cap n kd mk pl H n) (hn : n ≤ 60) (hq : Kd kd mk pl) {f : Nat} (hf : f < n) (x : Int) : H.Live [((HS.seqAt 4 f : Nat) : Int)] x ↔ ∃ j, j < n ∧ x = (HS.seqAt 4 j : Nat) := by
  constructor
  · intro hx
    induction hx with
    | root hx _ => simp at hx; exact ⟨f, hf, hx⟩
    | step _ hy ih =>
      obtain ⟨j, hj, rfl⟩ := ih
      rw [Int.toNat_natCast, h.kids hn hq hj] at hy
      simp at hy
      exact ⟨(j + 1) % n, Nat.mod_lt _ (by omega), hy⟩
  · rintro ⟨j, hj, rfl⟩
    have key : ∀ d, H.Live [((HS.seqAt 4 f : Nat) : Int)] ((HS.seqAt 4 ((f + d) % n) : Nat) : Int) := by
      intro d
      induction d with
      | zero =>
        rw [Nat.add_zero, Nat.mod_eq_of_lt hf]
        exact .root (by simp) (h.isRef hn hf)
      | succ d ih =>
        refine .step ih ?_
        rw [Int.toNat_natCast, h.kids hn hq (Nat.mod_lt _ (by omega))]
        unfold nxt
        simp
        congr 1
    have := key (n - f + j)
    rwa [show f + (n - f + j) = j + n by omega, Nat.add_mod_right, Nat.mod_eq_of_lt hj] at this
theorem RW.nodup : ((List.range n).map fun j => HS.seqAt 4 j).Nodup := by
  rw [List.nodup_iff_pairwise_ne, List.pairwise_map]
  refine List.Pairwise.imp ?_ (List.nodup_iff_pairwise_ne.1 (List.nodup_range (n := n)))
  intro i j hne e
  rw [seqAt4, seqAt4] at e
  omega
theorem RW.reached (h : RW w wr B b cap n kd mk pl H n) (hn : n ≤ 60) (hq : Kd kd mk pl) {f : Nat} (hf : f < n) {l : List Int} (hl : l.Pairwise (· < ·)) (hm : ∀ y, y ∈ l ↔ H.Live [((HS.seqAt 4 f : Nat) : Int)] y) : l.length = n := by
  have h2 := nodup_length_eq (l := l) (m := (List.range n).map fun j => ((HS.seqAt 4 j : Nat) : Int)) (List.nodup_iff_pairwise_ne.2 (hl.imp fun h => by omega)) (by
    rw [List.nodup_iff_pairwise_ne, List.pairwise_map]
    refine List.Pairwise.imp ?_ (List.nodup_iff_pairwise_ne.1 (List.nodup_range (n := n)))
    intro i j hne e
    rw [seqAt4, seqAt4] at e
    omega) (fun y => by
    rw [hm y, h.live hn hq hf, List.mem_map]
    constructor
    · rintro ⟨j, hj, rfl⟩; exact ⟨j, List.mem_range.2 hj, rfl⟩
    · rintro ⟨j, hj, rfl⟩; exact ⟨j, List.mem_range.1 hj, rfl⟩)
  rw [h2]; simp
theorem RW.swept (h : RW w wr B b cap n kd mk pl H n) (hn : n ≤ 60) (hq : Kd kd mk pl) {f : Nat} (hf : f < n) {H' : HS} {c : Nat} (hs : H.Swept H' [((HS.seqAt 4 f : Nat) : Int)] c) : c = 0 ∧ H'.blocks.length = n := by
  have h2 := hs.wf.count (l := (List.range n).map fun j => HS.seqAt 4 j) RW.nodup (fun a => by
    rw [List.mem_map]
    constructor
    · rintro ⟨j, hj, rfl⟩
      rw [List.mem_range] at hj
      rw [hs.kept _ ((h.live hn hq hf _).2 ⟨j, hj, rfl⟩), h.room hn hj]
      omega
    · intro ha
      apply Classical.byContradiction
      intro hno
      refine ha (hs.gone a fun hlv => hno ?_)
      obtain ⟨j, hj, e⟩ := (h.live hn hq hf _).1 hlv
      exact ⟨j, List.mem_range.2 hj, by omega⟩)
  have h3 := hs.count
  have h4 := Listed.count (h.listed hn).1
  rw [h2, h4] at h3
  rw [h2]
  simp at h3 ⊢
  omega
/-- From an odd word nothing is reached. -/
theorem odd_swept {H H' : HS} {x : Int} {c : Nat} (hW : H.Wf) (hx : x % 2 = 1) (hs : H.Swept H' [x] c) : c = H.blocks.length ∧ H'.blocks.length = 0 := by
  have hno : ∀ y, ¬ H.Live [x] y := by
    intro y hy
    induction hy with
    | root hy hr => simp at hy; subst hy; have := HS.isRef_pos hW hr; omega
    | step _ _ ih => exact ih
  have h2 := hs.wf.count (l := []) List.nodup_nil (fun a => by
    constructor
    · intro h; simp at h
    · intro ha; exact absurd (hs.gone a (hno a)) ha)
  have h3 := hs.count
  simp at h2
  rw [h2] at h3 ⊢
  simp at h3 ⊢
  exact h3
end
end Rings
end Go.Proofs.Ytnflgjhgegggcaa
