/-
  The document's heap in memory: a list of blocks, each with its words in a block of their own.
-/
import Derived.Test.YtnflgjhgegggcaaRefP
import Derived.Test.YtnflgjhgegggcaaArgs
import Derived.Test.YtnflgjhgegggcaaSeq2
import Derived.Deep.AppendLies
import Derived.Laws.OwnMore
namespace Go.Proofs.Ytnflgjhgegggcaa
open Go.RowKit

/-- A block of the document: where it begins, its room, where its words lie. -/
structure RB where
  a : Nat
  r : Nat
  g : Nat
def RB.cells (x : RB) : List Value := [.int .i64 (x.a : Nat), .int .i64 (x.r : Nat), .slice (some ⟨x.g, 0, none⟩) x.r x.r]
def rball (L : List RB) : List Value := L.flatMap RB.cells
def ra (L : List RB) (i : Nat) : Nat := (L.getD i ⟨0, 0, 0⟩).a
def rr (L : List RB) (i : Nat) : Nat := (L.getD i ⟨0, 0, 0⟩).r
def rg (L : List RB) (i : Nat) : Nat := (L.getD i ⟨0, 0, 0⟩).g
theorem rb_get {L : List RB} {i : Nat} (hi : i < L.length) : L.getD i ⟨0, 0, 0⟩ = L[i] := by rw [List.getD_eq_getElem?_getD, List.getElem?_eq_getElem hi]; rfl
theorem rball_nil : rball [] = [] := rfl
theorem rball_append (a b : List RB) : rball (a ++ b) = rball a ++ rball b := by simp [rball]
theorem rball_one (x : RB) : rball [x] = x.cells := by simp [rball]
theorem rball_length (L : List RB) : (rball L).length = L.length * 3 := by
  induction L with
  | nil => rfl
  | cons x L ih =>
    have : rball (x :: L) = x.cells ++ rball L := by simp [rball]
    rw [this, List.length_append, ih, List.length_cons]
    simp [RB.cells]
    omega
theorem rball_at {L : List RB} : ∀ {i : Nat} {x : RB}, L[i]? = some x → ∀ j, j < 3 → (rball L)[i * 3 + j]? = x.cells[j]? := by
  induction L with
  | nil => intro i x h; simp at h
  | cons y L ih =>
    intro i x h j hj
    have e : rball (y :: L) = y.cells ++ rball L := by simp [rball]
    have hl : y.cells.length = 3 := by simp [RB.cells]
    rw [e]
    cases i with
    | zero =>
      simp at h
      subst h
      rw [List.getElem?_append_left (by omega)]
      simp
    | succ i =>
      simp at h
      rw [List.getElem?_append_right (by omega), hl, show (i + 1) * 3 + j - 3 = i * 3 + j by omega]
      exact ih h j hj
theorem rball_take (L : List RB) (i : Nat) : rball (L.take i) = (rball L).take (i * 3) := by
  induction L generalizing i with
  | nil => simp [rball]
  | cons y L ih =>
    have e : ∀ M, rball (y :: M) = y.cells ++ rball M := by intro M; simp [rball]
    have hl : y.cells.length = 3 := by simp [RB.cells]
    cases i with
    | zero => simp [rball]
    | succ i =>
      rw [List.take_succ_cons, e, e, ih, List.take_append, hl, show (i + 1) * 3 - 3 = i * 3 by omega, List.take_of_length_le (l := y.cells) (by omega)]
theorem rball_drop (L : List RB) (i : Nat) : rball (L.drop i) = (rball L).drop (i * 3) := by
  induction L generalizing i with
  | nil => simp [rball]
  | cons y L ih =>
    have e : ∀ M, rball (y :: M) = y.cells ++ rball M := by intro M; simp [rball]
    have hl : y.cells.length = 3 := by simp [RB.cells]
    cases i with
    | zero => simp [e]
    | succ i =>
      rw [List.drop_succ_cons, e, ih, List.drop_append, hl, show (i + 1) * 3 - 3 = i * 3 by omega, List.drop_of_length_le (l := y.cells) (by omega), List.nil_append]

/-- The document's heap H lies at rb; its list of blocks is lv. -/
structure RefAt (w : World) (rb : Nat) (lv : Value) (L : List RB) (H : HS) : Prop where
  hd : w.heap[rb]? = some (.cells #[.int .i64 (H.n : Nat), lv] 45 (0, 0))
  row : w.ownsRow 0 47 3 lv L.length (rball L)
  wds : ∀ x ∈ L, Row w x.g 3 .i64 x.r (fun k => H.words (x.a + k))
  ats : L.map RB.a = H.blocks
  rms : ∀ x ∈ L, x.r = H.room x.a
  gs : (L.map RB.g).Nodup
def RFp (rb : Nat) (lv : Value) (L : List RB) (k : Nat) : Prop := k = rb ∨ lv.ownBlock = some k ∨ ∃ x ∈ L, x.g = k

theorem ownsRow_keeps {w w' : World} {F : Nat → Prop} {base size n : Nat} {T : TypeId} {v : Value} {xs : List Value} (h : w.ownsRow base T size v n xs) (hk : Keeps F w w') (hF : ∀ k, v.ownBlock = some k → ¬ F k) : w'.ownsRow base T size v n xs := by
  refine ⟨h.1, ?_⟩
  rcases h.2 with e | ⟨g, cap, cur, rfl, hb, hg, rest⟩
  · exact .inl e
  · exact .inr ⟨g, cap, cur, rfl, hb, hk.at_ hg (hF g rfl), rest⟩
theorem ownsRow_slice {w : World} {base size n : Nat} {T : TypeId} {v : Value} {xs : List Value} (h : w.ownsRow base T size v n xs) : ∃ a c, v = .slice a n c ∧ n ≤ c := by
  rcases h.2 with ⟨e, h0⟩ | ⟨g, cap, cur, e, _, _, h1, _⟩
  · exact ⟨none, 0, by rw [e, h0], by omega⟩
  · exact ⟨_, _, e, h1⟩

namespace RefAt
variable {w w' : World} {rb : Nat} {lv : Value} {L : List RB} {H : HS} {F : Nat → Prop}
theorem keep (h : RefAt w rb lv L H) (hk : Keeps F w w') (hF : ∀ k, RFp rb lv L k → ¬ F k) : RefAt w' rb lv L H :=
  ⟨hk.at_ h.hd (hF _ (.inl rfl)), ownsRow_keeps h.row hk fun k e => hF k (.inr (.inl e)), fun x hx => (h.wds x hx).keep hk (hF _ (.inr (.inr ⟨x, hx, rfl⟩))), h.ats, h.rms, h.gs⟩
theorem drewN (h : RefAt w rb lv L H) (q : Nat) : RefAt (w.drewN q) rb lv L H := ⟨h.hd, h.row, h.wds, h.ats, h.rms, h.gs⟩
theorem lt (h : RefAt w rb lv L H) : ∀ k, RFp rb lv L k → k < w.heap.size := by
  rintro k (rfl | e | ⟨x, hx, rfl⟩)
  · exact heap_lt h.hd
  · exact (h.row.lt k e).2
  · exact (h.wds x hx).lt
theorem c0 (h : RefAt w rb lv L H) : w.cell? ⟨rb, 0, none⟩ = some (.int .i64 (H.n : Nat)) := by simp [World.cell?, h.hd]
theorem c1 (h : RefAt w rb lv L H) : w.cell? ⟨rb, 1, none⟩ = some lv := by simp [World.cell?, h.hd]
theorem fr (h : RefAt w rb lv L H) (i : Nat) : w.frozen? ⟨rb, i, none⟩ = false := by simp [World.frozen?, h.hd]
theorem len (h : RefAt w rb lv L H) : L.length = H.blocks.length := by rw [← h.ats, List.length_map]
theorem len_le (h : RefAt w rb lv L H) (hW : H.Wf) : L.length ≤ 1048576 := by
  rw [h.len]
  have := HS.blocksTo_length H H.n
  have := hW.nb
  unfold HS.blocks
  omega
theorem slice (h : RefAt w rb lv L H) : ∃ a c, lv = .slice a L.length c ∧ L.length ≤ c := ownsRow_slice h.row
/-- The i-th block. -/
theorem at_ {al : Option Addr} {n cl : Nat} (h : RefAt w rb (.slice al n cl) L H) {i : Nat} (hi : i < L.length) : ∃ b, al = some ⟨b, 0, none⟩ ∧ n = L.length ∧
    w.cell? ⟨b, i * 3, none⟩ = some (.int .i64 (ra L i : Nat)) ∧ w.cell? ⟨b, i * 3 + 1, none⟩ = some (.int .i64 (rr L i : Nat)) ∧ w.cell? ⟨b, i * 3 + 2, none⟩ = some (.slice (some ⟨rg L i, 0, none⟩) (rr L i) (rr L i)) := by
  obtain ⟨b, c, e, _, _⟩ := h.row.form (by omega)
  injection e with e1 e2 e3
  subst e1
  subst e2
  have hx : L[i]? = some L[i] := List.getElem?_eq_getElem hi
  have hc : ∀ j, j < 3 → w.cell? ⟨b, i * 3 + j, none⟩ = L[i].cells[j]? := by
    intro j hj
    rw [← rball_at hx j hj]
    exact World.ownsRow.cellAt h.row (i * 3 + j) (by omega)
  unfold ra rr rg
  rw [rb_get hi]
  exact ⟨b, rfl, rfl, hc 0 (by omega), hc 1 (by omega), hc 2 (by omega)⟩
theorem mem_iff (h : RefAt w rb lv L H) (a : Nat) : a ∈ H.blocks ↔ ∃ i, i < L.length ∧ ra L i = a := by
  rw [← h.ats, List.mem_map]
  constructor
  · rintro ⟨x, hx, rfl⟩
    obtain ⟨i, hi, e⟩ := List.getElem_of_mem hx
    exact ⟨i, hi, by unfold ra; rw [rb_get hi, e]⟩
  · rintro ⟨i, hi, rfl⟩
    exact ⟨_, List.getElem_mem hi, by unfold ra; rw [rb_get hi]⟩
theorem room_at (h : RefAt w rb lv L H) {i : Nat} (hi : i < L.length) : rr L i = H.room (ra L i) := by
  have := h.rms _ (List.getElem_mem hi)
  unfold rr ra
  rw [rb_get hi]; exact this
theorem room_ne (h : RefAt w rb lv L H) (hW : H.Wf) {i : Nat} (hi : i < L.length) : H.room (ra L i) ≠ 0 := (hW.mem_blocks _).1 ((h.mem_iff _).2 ⟨i, hi, rfl⟩)
theorem wds_at (h : RefAt w rb lv L H) {i : Nat} (hi : i < L.length) : Row w (rg L i) 3 .i64 (rr L i) (fun k => H.words (ra L i + k)) := by
  have := h.wds _ (List.getElem_mem hi)
  unfold rr ra rg
  rw [rb_get hi]; exact this
theorem rising (h : RefAt w rb lv L H) {i j : Nat} (hi : i < j) (hj : j < L.length) : ra L i < ra L j := by
  have := List.pairwise_iff_getElem.1 H.blocks_sorted i j (by rw [← h.len]; omega) (by rw [← h.len]; omega) hi
  simp only [← h.ats, List.getElem_map] at this
  unfold ra
  rw [rb_get hj, rb_get (show i < L.length by omega)]
  exact this
end RefAt

/-- Where x stands in the list of blocks, or -1. -/
def RB.find (L : List RB) (x : Int) : Int := match first (fun i => decide ((ra L i : Int) = x)) L.length with
  | some i => (i : Int)
  | none => -1
theorem RB.find_yes {L : List RB} {x : Int} {i : Nat} (hi : i < L.length) (he : (ra L i : Int) = x) (hj : ∀ j, j < i → (ra L j : Int) ≠ x) : RB.find L x = i := by
  unfold RB.find
  rw [first_some.2 ⟨hi, decide_eq_true he, fun j hj' => decide_eq_false (hj j hj')⟩]
theorem RB.find_no {L : List RB} {x : Int} (h : ∀ i, i < L.length → (ra L i : Int) ≠ x) : RB.find L x = -1 := by
  unfold RB.find
  rw [first_none.2 fun j hj => decide_eq_false (h j hj)]
theorem RefAt.find_at {w : World} {rb : Nat} {lv : Value} {L : List RB} {H : HS} (h : RefAt w rb lv L H) {i : Nat} (hi : i < L.length) : RB.find L (ra L i : Nat) = i :=
  RB.find_yes hi rfl fun j hj e => by have := h.rising hj hi; omega
/-- Find tells whether there is a block. -/
theorem RefAt.find_room {w : World} {rb : Nat} {lv : Value} {L : List RB} {H : HS} (h : RefAt w rb lv L H) (hW : H.Wf) (x : Int) : (H.roomI x = 0 ∧ RB.find L x = -1) ∨ ∃ i, i < L.length ∧ x = (ra L i : Nat) ∧ RB.find L x = i ∧ H.roomI x = rr L i ∧ rr L i ≠ 0 := by
  by_cases e : ∃ i, i < L.length ∧ x = (ra L i : Nat)
  · obtain ⟨i, hi, rfl⟩ := e
    have := h.room_ne hW hi
    rw [← h.room_at hi] at this
    exact .inr ⟨i, hi, rfl, h.find_at hi, by rw [HS.roomI_nat, ← h.room_at hi], this⟩
  · refine .inl ⟨?_, RB.find_no fun i hi e' => e ⟨i, hi, e'.symm⟩⟩
    unfold HS.roomI
    split
    · rfl
    · apply Classical.byContradiction
      intro hr
      obtain ⟨i, hi, e'⟩ := (h.mem_iff _).1 ((hW.mem_blocks _).2 hr)
      exact e ⟨i, hi, by omega⟩
end Go.Proofs.Ytnflgjhgegggcaa
