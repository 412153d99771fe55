/-
  Lists of the document's blocks with headers, in memory; raw blocks as they come in; the heap that they make.
-/
import Derived.Test.YtnflgjhgegggcaaRef5
import Derived.Test.YtnflgjhgegggcaaV1
import Derived.Test.YtnflgjhgegggcaaFront
namespace Go.Proofs.Ytnflgjhgegggcaa
open Go.RowKit

structure LB where
  a : Nat
  k : Int
  s : Int
  m : Int
  wa : Option Addr
  wl : Nat
  wc : Nat
def LB.cells (x : LB) : List Value := [.int .i64 (x.a : Nat), .int .i64 x.k, .int .i64 x.s, .int .i64 x.m, .slice x.wa x.wl x.wc]
def lball (L : List LB) : List Value := L.flatMap LB.cells
def lbd : LB := ⟨0, 0, 0, 0, none, 0, 0⟩
def lbat (L : List LB) (i : Nat) : LB := L.getD i lbd
theorem lbat_get {L : List LB} {i : Nat} (hi : i < L.length) : lbat L i = L[i] := by unfold lbat; rw [List.getD_eq_getElem?_getD, List.getElem?_eq_getElem hi]; rfl
theorem lball_cons (x : LB) (L : List LB) : lball (x :: L) = x.cells ++ lball L := by simp [lball]
theorem lball_append (a b : List LB) : lball (a ++ b) = lball a ++ lball b := by simp [lball]
theorem lball_one (x : LB) : lball [x] = x.cells := by simp [lball]
theorem lb_cells_length (x : LB) : x.cells.length = 5 := by simp [LB.cells]
theorem lball_length (L : List LB) : (lball L).length = L.length * 5 := by
  induction L with
  | nil => rfl
  | cons x L ih => rw [lball_cons, List.length_append, ih, List.length_cons, lb_cells_length]; omega
theorem lball_at {L : List LB} : ∀ {i : Nat}, i < L.length → ∀ j, j < 5 → (lball L)[i * 5 + j]? = (lbat L i).cells[j]? := by
  induction L with
  | nil => intro i h; simp at h
  | cons y L ih =>
    intro i h j hj
    have hl := lb_cells_length y
    rw [lball_cons]
    cases i with
    | zero =>
      rw [List.getElem?_append_left (by omega)]
      simp [lbat]
    | succ i =>
      rw [List.getElem?_append_right (by omega), hl, show (i + 1) * 5 + j - 5 = i * 5 + j by omega, ih (by simpa using h) j hj]
      rfl
theorem lball_set {L : List LB} : ∀ {i : Nat}, i < L.length → ∀ (j : Nat) (u : Value) (y : LB), j < 5 → y.cells = (lbat L i).cells.set j u → (lball L).set (i * 5 + j) u = lball (L.set i y) := by
  induction L with
  | nil => intro i h; simp at h
  | cons x L ih =>
    intro i h j u y hj hy
    have hl := lb_cells_length x
    rw [lball_cons]
    cases i with
    | zero =>
      rw [List.set_append_left _ _ (by omega), List.set_cons_zero, lball_cons, hy]
      simp [lbat]
    | succ i =>
      rw [List.set_append_right _ _ (by omega), hl, show (i + 1) * 5 + j - 5 = i * 5 + j by omega, List.set_cons_succ, lball_cons, ih (by simpa using h) j u y hj hy]
theorem lbat_set_same {L : List LB} {i : Nat} (h : i < L.length) (y : LB) : lbat (L.set i y) i = y := by
  rw [lbat_get (by simpa using h)]; simp
theorem lbat_set_ne {L : List LB} {i j : Nat} (h : j ≠ i) (y : LB) : lbat (L.set i y) j = lbat L j := by
  unfold lbat
  rw [List.getD_eq_getElem?_getD, List.getD_eq_getElem?_getD, List.getElem?_set_ne (by omega)]
theorem lb_one (x : LB) : ∀ u ∈ x.cells, u.oneCell' = true := by
  intro u hu
  simp [LB.cells] at hu
  rcases hu with rfl | rfl | rfl | rfl | rfl <;> rfl

theorem info_lb : (Try.prog.info? 37).map (fun i => (i.zero, i.size, i.bytes)) = some (some (.agg #[.int .i64 0, .int .i64 0, .int .i64 0, .int .i64 0, .slice none 0 0]), 5, 56) := by kernel_rfl
theorem underlying_lbs : Try.prog.underlying 33 = some (.slice 37) := by kernel_rfl

section
variable {w : World}
/-- append of one block. -/
theorem wpList_appLB {ops : Array Oper} {rest : List Oper} {o : Oper} {a : Act} {Q : Exit → Act → World → Prop} (hgd : o.guard = none) (s x : Operand)
    (ho : o.op = .call { callee := .builtin .append, args := #[s, x], argTypes := #[ (33 : Nat) , (33 : Nat) ] })
    (base : Nat) (v : Value) (n : Nat) (xs : List Value) (hs : a.eval s = v) (hown : w.ownsRow base 37 5 v n xs) (b c : Nat) (y : LB) (fr : Nat × Nat) (hx : a.eval x = .slice (some ⟨b, 0, none⟩) 1 c)
    (hb : w.heap[b]? = some (.cells #[.int .i64 (y.a : Nat), .int .i64 y.k, .int .i64 y.s, .int .i64 y.m, .slice y.wa y.wl y.wc] 37 fr)) (hn : n ≤ 1000000000) (hbase : base ≤ w.heap.size)
    (h : ∀ g cap w', w'.ownsRow base 37 5 (.slice (some ⟨g, 0, none⟩) (n + 1) cap) (n + 1) (xs ++ y.cells) → Keeps (fun k => v.ownBlock = some k) w w' → wpList Try.prog ops Q rest (a.put o.dst (.slice (some ⟨g, 0, none⟩) (n + 1) cap)) w') : wpList Try.prog ops Q (o :: rest) a w := by
  obtain ⟨i3, hi3, hy0, hy1, hy2⟩ := info_parts info_lb
  refine wpList_append_lies w hgd s x 33 ho base 37 i3 _ 5 56 underlying_lbs hi3 hy0 hy1 hy2 (by rfl) (by omega) v n xs hs hown ⟨b, 0, none⟩ 1 c y.cells hx rfl
    (World.news_of_block hb) (lb_one y) (by omega) (by unfold maxLen; omega) (by omega) hbase _ rfl ?_
  intro g cap w' hO hG _ _
  exact h g cap w' hO (grownBy_keeps hG)
/-- The cells of the i-th block. -/
theorem lrow_at {base : Nat} {al : Option Addr} {n cl : Nat} {L : List LB} (h : w.ownsRow base 37 5 (.slice al n cl) L.length (lball L)) {i : Nat} (hi : i < L.length) : ∃ b, al = some ⟨b, 0, none⟩ ∧ n = L.length ∧ b < w.heap.size ∧ base ≤ b ∧
    w.cell? ⟨b, i * 5, none⟩ = some (.int .i64 ((lbat L i).a : Nat)) ∧ w.cell? ⟨b, i * 5 + 1, none⟩ = some (.int .i64 (lbat L i).k) ∧ w.cell? ⟨b, i * 5 + 2, none⟩ = some (.int .i64 (lbat L i).s) ∧ w.cell? ⟨b, i * 5 + 3, none⟩ = some (.int .i64 (lbat L i).m) ∧ w.cell? ⟨b, i * 5 + 4, none⟩ = some (.slice (lbat L i).wa (lbat L i).wl (lbat L i).wc) ∧ ∀ j, w.frozen? ⟨b, j, none⟩ = false := by
  obtain ⟨b, c, e, hb1, hb2⟩ := h.form (by omega)
  injection e with e1 e2 e3
  subst e1
  subst e2
  have hc : ∀ j, j < 5 → w.cell? ⟨b, i * 5 + j, none⟩ = (lbat L i).cells[j]? := by
    intro j hj
    rw [← lball_at hi j hj]
    exact World.ownsRow.cellAt h (i * 5 + j) (by omega)
  exact ⟨b, rfl, rfl, hb2, hb1, hc 0 (by omega), hc 1 (by omega), hc 2 (by omega), hc 3 (by omega), hc 4 (by omega), fun j => World.ownsRow.frozenAt h j⟩
/-- A store into the i-th block. -/
theorem lrow_set {base b n cl : Nat} {L : List LB} (h : w.ownsRow base 37 5 (.slice (some ⟨b, 0, none⟩) n cl) L.length (lball L)) {i : Nat} (hi : i < L.length) (j : Nat) (hj : j < 5) (u : Value) (y : LB) (hy : y.cells = (lbat L i).cells.set j u) :
    (w.setCell ⟨b, i * 5 + j, none⟩ u).ownsRow base 37 5 (.slice (some ⟨b, 0, none⟩) n cl) (L.set i y).length (lball (L.set i y)) ∧ Keeps (fun k => k = b) w (w.setCell ⟨b, i * 5 + j, none⟩ u) := by
  obtain ⟨_, _, e, _, _⟩ := h.form (by omega)
  injection e with e1 e2 e3
  subst e2
  have := World.ownsRow.stored h (i * 5 + j) u
  rw [lball_set hi j u y hj hy] at this
  rw [List.length_set]
  exact ⟨this.1, (Keeps.refl (fun k => k = b) w).setCell (p := ⟨b, i * 5 + j, none⟩) (fun _ => rfl) u⟩
end

/-- A raw block. -/
structure RawE where
  kd : Int
  sz : Int
  ms : Int
  wa : Option Addr
  wl : Nat
  wc : Nat
  ws : Nat → Int
def RawArg (w : World) (a : Option Addr) (len : Nat) (R : Nat → RawE) : Prop :=
  len = 0 ∨ ∃ b o, a = some ⟨b, o, none⟩ ∧ ∀ i, i < len → w.cell? ⟨b, o + i * 4, none⟩ = some (.int .i64 (R i).kd) ∧ w.cell? ⟨b, o + i * 4 + 1, none⟩ = some (.int .i64 (R i).sz) ∧ w.cell? ⟨b, o + i * 4 + 2, none⟩ = some (.int .i64 (R i).ms) ∧ w.cell? ⟨b, o + i * 4 + 3, none⟩ = some (.slice (R i).wa (R i).wl (R i).wc) ∧
    Arg w (R i).wa (R i).wl (fun t => .int .i64 ((R i).ws t)) ∧ ∀ t, t < (R i).wl → -9223372036854775808 ≤ (R i).ws t
theorem RawArg.keep {w w' : World} {a : Option Addr} {len : Nat} {R : Nat → RawE} (h : RawArg w a len R) (hk : Keeps (fun _ => False) w w') : RawArg w' a len R := by
  rcases h with h | ⟨b, o, h1, h2⟩
  · exact .inl h
  · exact .inr ⟨b, o, h1, fun i hi => by
      obtain ⟨q0, q1, q2, q3, q4, q5⟩ := h2 i hi
      exact ⟨hk.cell0 q0, hk.cell0 q1, hk.cell0 q2, hk.cell0 q3, q4.keep hk, q5⟩⟩
theorem RawArg.get {w : World} {a : Option Addr} {len : Nat} {R : Nat → RawE} (h : RawArg w a len R) {i : Nat} (hi : i < len) : ∃ b o, a = some ⟨b, o, none⟩ ∧ w.cell? ⟨b, o + i * 4, none⟩ = some (.int .i64 (R i).kd) ∧ w.cell? ⟨b, o + i * 4 + 1, none⟩ = some (.int .i64 (R i).sz) ∧ w.cell? ⟨b, o + i * 4 + 2, none⟩ = some (.int .i64 (R i).ms) ∧ w.cell? ⟨b, o + i * 4 + 3, none⟩ = some (.slice (R i).wa (R i).wl (R i).wc) ∧
    Arg w (R i).wa (R i).wl (fun t => .int .i64 ((R i).ws t)) ∧ ∀ t, t < (R i).wl → -9223372036854775808 ≤ (R i).ws t := by
  rcases h with h | ⟨b, o, h1, h2⟩
  · omega
  · exact ⟨b, o, h1, h2 i hi⟩

/-- The heap that raw blocks make. -/
def HS.stp (H : HS) (x : Int) : HS := match H.alloc x with
  | some r => r.2
  | none => H
def mkH (R : Nat → RawE) : Nat → HS
  | 0 => HS.new 8192
  | k + 1 => (mkH R k).stp (((R k).wl : Int) + 1)
def mkA (R : Nat → RawE) (k : Nat) : Nat := match (mkH R k).alloc (((R k).wl : Int) + 1) with
  | some r => r.1
  | none => 0
/-- What the raw blocks are allowed to be: few, and small. -/
def Few (R : Nat → RawE) (len : Nat) : Prop := len ≤ 40 ∧ ∀ i, i < len → (R i).wl ≤ 100
theorem mkH_all {R : Nat → RawE} {len : Nat} (hF : Few R len) : ∀ k, k ≤ len → (mkH R k).Wf ∧ (mkH R k).n = 128 ∧ (mkH R k).Front (1 + 2 * k) ∧ ∀ j, j < k → ∃ r, (mkH R j).alloc (((R j).wl : Int) + 1) = some (mkA R j, mkH R (j + 1)) ∧ HS.Adds (mkH R j) (mkH R (j + 1)) (mkA R j) r ∧ (R j).wl + 1 ≤ r
  | 0, _ => ⟨new_wf (by omega) (by omega), rfl, fun a ha => by
      obtain ⟨j, hj, _⟩ := ((HS.new_listed (x := 8192) (L := id) (by omega) (new_wf (by omega) (by omega))).rooms a).1 ha
      omega, fun j hj => by omega⟩
  | k + 1, hk => by
    obtain ⟨h1, h2, h3, h4⟩ := mkH_all hF k (by omega)
    have hl := hF.2 k (by omega)
    have hlen := hF.1
    have hsp : HS.spansOf ((R k).wl + 1) ≤ 2 := by unfold HS.spansOf; split <;> omega
    have es : (((R k).wl : Int) + 1).toNat = (R k).wl + 1 := by omega
    obtain ⟨a, H1, ha, hadd, hfr⟩ := h1.alloc_front h3 (by omega) (x := ((R k).wl : Int) + 1) (by omega) (by omega) (by rw [es, h2]; omega)
    have e1 : mkH R (k + 1) = H1 := by show HS.stp _ _ = _; unfold HS.stp; rw [ha]
    have e2 : mkA R k = a := by unfold mkA; rw [ha]
    rw [es] at hadd hfr
    refine ⟨by rw [e1]; exact hadd.wf, by rw [e1]; exact hadd.n.trans h2, by rw [e1]; exact hfr.mono (by omega), fun j hj => ?_⟩
    by_cases e : j = k
    · subst e
      exact ⟨HS.roomOf ((R j).wl + 1), by rw [e1, e2]; exact ha, by rw [e1, e2]; exact hadd, HS.roomOf_ge⟩
    · exact h4 j (by omega)
end Go.Proofs.Ytnflgjhgegggcaa
