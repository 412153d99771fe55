/-
  The document's heap: its plain law, its list of blocks in memory, Find, Class, add.
-/
import Derived.Test.YtnbiofcfphpikaaSorted
import Derived.Test.YtnbiofcfphpikaaGone
import Derived.Test.YtnbiofcfphpikaaArgs
import Derived.Test.YtnbiofcfphpikaaSeq2
import Derived.Deep.AppendLies
import Derived.Laws.OwnMore
import Derived.Test.YtnbiofcfphpikaaW7
import Derived.Test.YtnbiofcfphpikaaW6
namespace Go.Proofs.Ytnbiofcfphpikaa
/-- Two rising lists of the same members are one. -/
theorem rising_eq : ∀ {l m : List Nat}, l.Pairwise (· < ·) → m.Pairwise (· < ·) → (∀ x, x ∈ l ↔ x ∈ m) → l = m
  | [], [], _, _, _ => rfl
  | [], y :: m, _, _, h => absurd ((h y).2 (List.mem_cons_self ..)) (by simp)
  | x :: l, [], _, _, h => absurd ((h x).1 (List.mem_cons_self ..)) (by simp)
  | x :: l, y :: m, hl, hm, h => by
    rw [List.pairwise_cons] at hl hm
    have e : x = y := by
      have h1 := (h x).1 (List.mem_cons_self ..)
      have h2 := (h y).2 (List.mem_cons_self ..)
      rw [List.mem_cons] at h1 h2
      rcases h1 with h1 | h1
      · exact h1
      · rcases h2 with h2 | h2
        · exact h2.symm
        · have := hl.1 y h2; have := hm.1 x h1; omega
    subst e
    congr 1
    refine rising_eq hl.2 hm.2 fun z => ?_
    have := h z
    rw [List.mem_cons, List.mem_cons] at this
    constructor
    · intro hz
      rcases this.1 (.inr hz) with e | e
      · have := hl.1 z hz; omega
      · exact e
    · intro hz
      rcases this.2 (.inr hz) with e | e
      · have := hm.1 z hz; omega
      · exact e
namespace HS
variable {H H' : HS} {a r : Nat}

/-- The class of a span as the document tells it. -/
def rcls (H : HS) (s : Nat) : Int := if H.cls s = -2 then -1 else H.cls s
theorem rcls_zero {s : Nat} : H.rcls s = 0 ↔ H.cls s = 0 := by
  unfold rcls
  split <;> omega
theorem rcls_class {s c : Nat} (hc : 0 < c) : H.rcls s = (c : Int) ↔ H.cls s = (c : Int) := by
  unfold rcls
  split <;> omega
theorem Wf.hit (hW : H.Wf) {a s : Nat} (ha : H.room a ≠ 0) (h1 : a < 64 * s + 64) (h2 : 64 * s < a + H.room a) :
    (64 < H.room a → H.rcls s = -1) ∧ (H.room a ≤ 64 → H.rcls s = (H.room a : Nat)) := by
  rcases hW.cases ha with ⟨t, ht, h1', hc, ea, hr⟩ | ⟨t, k, c, ht, h1', hc, hcl, hk, hb, ea, hr⟩
  · have hl := hW.lg t ht hc
    rw [hr] at h2 ⊢
    refine ⟨fun _ => ?_, fun h => by omega⟩
    unfold rcls
    by_cases e : s = t
    · rw [if_neg (by rw [e]; omega), e, hc]
    · rw [if_pos (hl.2.2.2 s (by omega) (by omega))]
  · have hd := cl_div hcl hk
    have hp := cl_pos hcl
    rw [hr] at h2 ⊢
    have e : s = t := by omega
    subst e
    refine ⟨fun h => by omega, fun _ => ?_⟩
    rw [rcls_class hp.1]
    exact hc
theorem Wf.some_bit (hW : H.Wf) {s c : Nat} (hs : s < H.n) (hc : H.cls s = (c : Int)) (hcl : Cl (c : Int)) : ∃ k, k < 64 / c ∧ (H.used s).testBit k = true := by
  have hp := cl_pos hcl
  have hu := hW.uc s hs (by omega)
  rw [hc, Int.toNat_natCast] at hu
  apply Classical.byContradiction
  intro hno
  apply hu.1
  apply Nat.eq_of_testBit_eq
  intro i
  rw [Nat.zero_testBit]
  by_cases hi : i < 64 / c
  · cases hb : (H.used s).testBit i with
    | false => rfl
    | true => exact absurd ⟨i, hi, hb⟩ hno
  · exact Nat.testBit_lt_two_pow (Nat.lt_of_lt_of_le hu.2 (Nat.pow_le_pow_right (by omega) (by omega)))
theorem Wf.miss (hW : H.Wf) {s : Nat} (hs : s < H.n) (h1 : 1 ≤ s) (h : ∀ a, H.room a ≠ 0 → ¬ (a < 64 * s + 64 ∧ 64 * s < a + H.room a)) : H.cls s = 0 := by
  rcases hW.kind s hs with e | e | e | e
  · exact e
  · exfalso
    have hl := hW.lg s hs e
    have hr := room_long hs e
    exact h (64 * s) (by omega) (by omega)
  · exfalso
    obtain ⟨f, hf1, hf2, hf3, hf4⟩ := hW.mo s hs h1 e
    have hl := hW.lg f (by omega) hf3
    have hr := room_long (H := H) (s := f) (by omega) hf3
    exact h (64 * f) (by omega) (by omega)
  · exfalso
    obtain ⟨c, hc, hcl⟩ := cl_nat e
    have hp := cl_pos hcl
    obtain ⟨k, hk, hb⟩ := hW.some_bit hs hc hcl
    have hd := cl_div hcl hk
    have hr := room_class hs hc hcl hk
    rw [if_pos hb] at hr
    exact h (64 * s + k * c) (by omega) (by omega)

/-- A span of the class with a free place. -/
theorem hasRoom_no (hW : H.Wf) {s c : Nat} (hs : s < H.n) (hcl : Cl (c : Int)) (h : H.cls s = (c : Int) → ∀ k, k < 64 / c → H.room (64 * s + k * c) ≠ 0) : H.hasRoom c s = false := by
  unfold hasRoom
  by_cases e : H.cls s = (c : Int)
  · rw [decide_eq_true e, Bool.true_and, decide_eq_false_iff_not, Classical.not_not]
    have hp := cl_pos hcl
    have hu := hW.uc s hs (by omega)
    rw [e, Int.toNat_natCast] at hu
    apply Nat.eq_of_testBit_eq
    intro i
    unfold full
    rw [Nat.testBit_two_pow_sub_one]
    by_cases hi : i < 64 / c
    · have := h e i hi
      rw [room_class hs e hcl hi] at this
      rw [decide_eq_true hi]
      cases hb : (H.used s).testBit i with
      | true => rfl
      | false => rw [hb] at this; simp at this
    · rw [decide_eq_false hi]
      exact Nat.testBit_lt_two_pow (Nat.lt_of_lt_of_le hu.2 (Nat.pow_le_pow_right (by omega) (by omega)))
  · rw [decide_eq_false e, Bool.false_and]
theorem hasRoom_zero (hW : H.Wf) (c : Nat) : H.hasRoom c 0 = false := by
  unfold hasRoom
  rw [decide_eq_false (by rw [hW.c0]; omega), Bool.false_and]
theorem alloc_small_eq {x : Nat} (h1 : 1 ≤ x) (hx : x ≤ 64) : H.alloc x = H.allocSmall (classOf x) := by
  unfold alloc
  rw [if_neg (by omega), if_neg (by omega), Int.toNat_natCast]
theorem alloc_run_eq {x : Nat} (h1 : 64 < x) (hx : x ≤ 16448) : H.alloc x = H.allocRun ((x + 63) / 64) := by
  unfold alloc
  rw [if_neg (by omega), if_pos (by omega), Int.toNat_natCast]
theorem alloc_hit (_hW : H.Wf) {s k c : Nat} (hcl : Cl (c : Int)) (hs : s < H.n) (hprev : ∀ t, t < s → H.hasRoom c t = false) (hc : H.cls s = (c : Int)) (hk : k < 64 / c)
    (h0 : H.room (64 * s + k * c) = 0) (hj : ∀ j, j < k → H.room (64 * s + j * c) ≠ 0) : ∃ H', H.allocSmall c = some (64 * s + k * c, H') := by
  have hp := cl_pos hcl
  have hbit : (H.used s).testBit k = false := by
    rw [room_class hs hc hcl hk] at h0
    cases hb : (H.used s).testBit k with
    | false => rfl
    | true => rw [hb, if_pos rfl] at h0; omega
  have hbits : ∀ j, j < k → (H.used s).testBit j = true := by
    intro j hjk
    have := hj j hjk
    rw [room_class hs hc hcl (by omega)] at this
    cases hb : (H.used s).testBit j with
    | true => rfl
    | false => rw [hb] at this; simp at this
  have hyes : H.hasRoom c s = true := by
    unfold hasRoom
    rw [decide_eq_true hc, Bool.true_and, decide_eq_true_eq]
    intro e
    rw [e, full, Nat.testBit_two_pow_sub_one, decide_eq_true hk] at hbit
    cases hbit
  have hf : first (H.hasRoom c) H.n = some s := first_some.2 ⟨hs, hyes, hprev⟩
  have hlz := lz_eq (u := H.used s) (k := k) (by omega) hbit hbits
  unfold allocSmall
  rw [hf]
  refine ⟨H.place s c, ?_⟩
  show some (64 * s + lz (H.used s) * c, _) = _
  rw [hlz]
theorem alloc_new (hW : H.Wf) {s c : Nat} (hs : s < H.n) (hno : ∀ t, t < H.n → H.hasRoom c t = false) (hc : H.cls s = 0) (hf : ∀ t, 1 ≤ t → t < s → H.cls t ≠ 0) :
    ∃ H', H.allocSmall c = some (64 * s, H') := by
  have e1 : first (H.hasRoom c) H.n = none := first_none.2 hno
  have e2 : first H.isFree H.n = some s := first_some.2 ⟨hs, by simp [isFree, hc], fun j hj => by
    unfold isFree
    rcases Nat.eq_zero_or_pos j with e | e
    · subst e; rw [decide_eq_false (by rw [hW.c0]; omega)]
    · exact decide_eq_false (hf j e hj)⟩
  have hu := hW.un s hs (by omega)
  unfold allocSmall
  rw [e1, e2]
  refine ⟨{ H with cls := setf H.cls s c }.place s c, ?_⟩
  show some (64 * s + lz (H.used s) * c, _) = _
  rw [hu, lz_zero, Nat.zero_mul, Nat.add_zero]
theorem alloc_out (hW : H.Wf) {c : Nat} (hno : ∀ t, t < H.n → H.hasRoom c t = false) (hf : ∀ t, 1 ≤ t → t < H.n → H.cls t ≠ 0) : H.allocSmall c = none := by
  have e1 : first (H.hasRoom c) H.n = none := first_none.2 hno
  have e2 : first H.isFree H.n = none := first_none.2 fun j hj => by
    unfold isFree
    rcases Nat.eq_zero_or_pos j with e | e
    · subst e; rw [decide_eq_false (by rw [hW.c0]; omega)]
    · exact decide_eq_false (hf j e hj)
  unfold allocSmall
  rw [e1, e2]
theorem run_hit {s m : Nat} (hs : s < H.n) (hc : cons H.cls (s + 1) = m) (hprev : ∀ t, t < s → cons H.cls (t + 1) ≠ m) : ∃ H', H.allocRun m = some (64 * (s + 1 - m), H') := by
  have e : first (fun s => decide (cons H.cls (s + 1) = m)) H.n = some s := first_some.2 ⟨hs, decide_eq_true hc, fun j hj => decide_eq_false (hprev j hj)⟩
  unfold allocRun
  rw [e]
  exact ⟨_, rfl⟩
theorem run_out {m : Nat} (hno : ∀ t, t < H.n → cons H.cls (t + 1) ≠ m) : H.allocRun m = none := by
  have e : first (fun s => decide (cons H.cls (s + 1) = m)) H.n = none := first_none.2 fun j hj => decide_eq_false (hno j hj)
  unfold allocRun
  rw [e]

theorem Adds.mem (h : Adds H H' a r) (hW : H.Wf) (b : Nat) : b ∈ H'.blocks ↔ b = a ∨ b ∈ H.blocks := by
  rw [h.wf.mem_blocks, hW.mem_blocks]
  by_cases e : b = a
  · subst e; rw [h.is]; exact ⟨fun _ => .inl rfl, fun _ => h.pos⟩
  · rw [h.other b e]; exact ⟨.inr, fun h => h.resolve_left e⟩
theorem Takes.mem (h : Takes H H' a) (hW : H.Wf) (b : Nat) : b ∈ H'.blocks ↔ b ≠ a ∧ b ∈ H.blocks := by
  rw [h.wf.mem_blocks, hW.mem_blocks]
  by_cases e : b = a
  · subst e; rw [h.is]; exact ⟨fun h => absurd rfl h, fun h => absurd rfl h.1⟩
  · rw [h.other b e]; exact ⟨fun h => ⟨e, h⟩, fun h => h.2⟩
/-- The list behind a new block: what lies below it, it, what lies above it. -/
theorem Adds.split (h : Adds H H' a r) (hW : H.Wf) {j : Nat} (_hj : j ≤ H.blocks.length) (h1 : ∀ x ∈ H.blocks.take j, x < a) (h2 : ∀ x ∈ H.blocks.drop j, a < x) : H'.blocks = H.blocks.take j ++ a :: H.blocks.drop j := by
  have hs := H.blocks_sorted
  refine rising_eq H'.blocks_sorted ?_ fun x => ?_
  · rw [List.pairwise_append, List.pairwise_cons]
    refine ⟨hs.sublist (List.take_sublist _ _), ⟨h2, hs.sublist (List.drop_sublist _ _)⟩, fun x hx y hy => ?_⟩
    rw [List.mem_cons] at hy
    have := h1 x hx
    rcases hy with e | hy
    · omega
    · have := h2 y hy; omega
  · rw [h.mem hW, List.mem_append, List.mem_cons]
    have : x ∈ H.blocks ↔ x ∈ H.blocks.take j ∨ x ∈ H.blocks.drop j := by rw [← List.mem_append, List.take_append_drop]
    rw [this]
    constructor
    · rintro (e | e | e)
      · exact .inr (.inl e)
      · exact .inl e
      · exact .inr (.inr e)
    · rintro (e | e | e)
      · exact .inr (.inl e)
      · exact .inl e
      · exact .inr (.inr e)
theorem Takes.split (h : Takes H H' a) (hW : H.Wf) {i : Nat} (hi : i < H.blocks.length) (ha : H.blocks[i]? = some a) : H'.blocks = H.blocks.take i ++ H.blocks.drop (i + 1) := by
  have hs := H.blocks_sorted
  have hn := H.blocks_nodup
  have ea : H.blocks = H.blocks.take i ++ a :: H.blocks.drop (i + 1) := by
    have e1 := (List.take_append_drop i H.blocks).symm
    rw [List.drop_eq_getElem_cons hi] at e1
    rw [List.getElem?_eq_getElem hi] at ha
    simp only [Option.some.injEq] at ha
    rw [ha] at e1
    exact e1
  refine rising_eq H'.blocks_sorted ?_ fun x => ?_
  · rw [ea] at hs
    rw [List.pairwise_append, List.pairwise_cons] at hs
    rw [List.pairwise_append]
    exact ⟨hs.1, hs.2.1.2, fun x hx y hy => hs.2.2 x hx y (List.mem_cons_of_mem _ hy)⟩
  · rw [h.mem hW]
    have hx : x ∈ H.blocks ↔ x ∈ H.blocks.take i ∨ x = a ∨ x ∈ H.blocks.drop (i + 1) := by
      conv => lhs; rw [ea]
      rw [List.mem_append, List.mem_cons]
    rw [hx, List.mem_append]
    rw [ea, List.nodup_append] at hn
    obtain ⟨-, hn2, hn3⟩ := hn
    rw [List.nodup_cons] at hn2
    constructor
    · rintro ⟨hne, e | e | e⟩
      · exact .inl e
      · exact absurd e hne
      · exact .inr e
    · rintro (e | e)
      · exact ⟨fun e' => hn3 x e a (List.mem_cons_self ..) e', .inl e⟩
      · exact ⟨fun e' => hn2.1 (e' ▸ e), .inr (.inr e)⟩
end HS
end Go.Proofs.Ytnbiofcfphpikaa

namespace Go.Proofs.Ytnbiofcfphpikaa
open Go.RowKit

/-- A block of the document: where it begins, its room, where its words lie. -/
structure RB where
  a : Nat
  r : Nat
  g : Nat
def RB.cells (x : RB) : List Value := [.int .i64 (x.a : Nat), .int .i64 (x.r : Nat), .slice (some ⟨x.g, 0, none⟩) x.r x.r]
def rball (L : List RB) : List Value := L.flatMap RB.cells
def ra (L : List RB) (i : Nat) : Nat := (L.getD i ⟨0, 0, 0⟩).a
def rr (L : List RB) (i : Nat) : Nat := (L.getD i ⟨0, 0, 0⟩).r
def rg (L : List RB) (i : Nat) : Nat := (L.getD i ⟨0, 0, 0⟩).g
theorem rb_get {L : List RB} {i : Nat} (hi : i < L.length) : L.getD i ⟨0, 0, 0⟩ = L[i] := by rw [List.getD_eq_getElem?_getD, List.getElem?_eq_getElem hi]; rfl
theorem rball_nil : rball [] = [] := rfl
theorem rball_append (a b : List RB) : rball (a ++ b) = rball a ++ rball b := by simp [rball]
theorem rball_one (x : RB) : rball [x] = x.cells := by simp [rball]
theorem rball_length (L : List RB) : (rball L).length = L.length * 3 := by
  induction L with
  | nil => rfl
  | cons x L ih =>
    have : rball (x :: L) = x.cells ++ rball L := by simp [rball]
    rw [this, List.length_append, ih, List.length_cons]
    simp [RB.cells]
    omega
theorem rball_at {L : List RB} : ∀ {i : Nat} {x : RB}, L[i]? = some x → ∀ j, j < 3 → (rball L)[i * 3 + j]? = x.cells[j]? := by
  induction L with
  | nil => intro i x h; simp at h
  | cons y L ih =>
    intro i x h j hj
    have e : rball (y :: L) = y.cells ++ rball L := by simp [rball]
    have hl : y.cells.length = 3 := by simp [RB.cells]
    rw [e]
    cases i with
    | zero =>
      simp at h
      subst h
      rw [List.getElem?_append_left (by omega)]
      simp
    | succ i =>
      simp at h
      rw [List.getElem?_append_right (by omega), hl, show (i + 1) * 3 + j - 3 = i * 3 + j by omega]
      exact ih h j hj
theorem rball_take (L : List RB) (i : Nat) : rball (L.take i) = (rball L).take (i * 3) := by
  induction L generalizing i with
  | nil => simp [rball]
  | cons y L ih =>
    have e : ∀ M, rball (y :: M) = y.cells ++ rball M := by intro M; simp [rball]
    have hl : y.cells.length = 3 := by simp [RB.cells]
    cases i with
    | zero => simp [rball]
    | succ i =>
      rw [List.take_succ_cons, e, e, ih, List.take_append, hl, show (i + 1) * 3 - 3 = i * 3 by omega, List.take_of_length_le (l := y.cells) (by omega)]
theorem rball_drop (L : List RB) (i : Nat) : rball (L.drop i) = (rball L).drop (i * 3) := by
  induction L generalizing i with
  | nil => simp [rball]
  | cons y L ih =>
    have e : ∀ M, rball (y :: M) = y.cells ++ rball M := by intro M; simp [rball]
    have hl : y.cells.length = 3 := by simp [RB.cells]
    cases i with
    | zero => simp [e]
    | succ i =>
      rw [List.drop_succ_cons, e, ih, List.drop_append, hl, show (i + 1) * 3 - 3 = i * 3 by omega, List.drop_of_length_le (l := y.cells) (by omega), List.nil_append]

/-- The document's heap H lies at rb; its list of blocks is lv. -/
structure RefAt (w : World) (rb : Nat) (lv : Value) (L : List RB) (H : HS) : Prop where
  hd : w.heap[rb]? = some (.cells #[.int .i64 (H.n : Nat), lv] 97 (0, 0))
  row : w.ownsRow 0 112 3 lv L.length (rball L)
  wds : ∀ x ∈ L, Row w x.g 3 .i64 x.r (fun k => H.words (x.a + k))
  ats : L.map RB.a = H.blocks
  rms : ∀ x ∈ L, x.r = H.room x.a
  gs : (L.map RB.g).Nodup
def RFp (rb : Nat) (lv : Value) (L : List RB) (k : Nat) : Prop := k = rb ∨ lv.ownBlock = some k ∨ ∃ x ∈ L, x.g = k

theorem ownsRow_keeps {w w' : World} {F : Nat → Prop} {base size n : Nat} {T : TypeId} {v : Value} {xs : List Value} (h : w.ownsRow base T size v n xs) (hk : Keeps F w w') (hF : ∀ k, v.ownBlock = some k → ¬ F k) : w'.ownsRow base T size v n xs := by
  refine ⟨h.1, ?_⟩
  rcases h.2 with e | ⟨g, cap, cur, rfl, hb, hg, rest⟩
  · exact .inl e
  · exact .inr ⟨g, cap, cur, rfl, hb, hk.at_ hg (hF g rfl), rest⟩
theorem ownsRow_slice {w : World} {base size n : Nat} {T : TypeId} {v : Value} {xs : List Value} (h : w.ownsRow base T size v n xs) : ∃ a c, v = .slice a n c ∧ n ≤ c := by
  rcases h.2 with ⟨e, h0⟩ | ⟨g, cap, cur, e, _, _, h1, _⟩
  · exact ⟨none, 0, by rw [e, h0], by omega⟩
  · exact ⟨_, _, e, h1⟩

namespace RefAt
variable {w w' : World} {rb : Nat} {lv : Value} {L : List RB} {H : HS} {F : Nat → Prop}
theorem keep (h : RefAt w rb lv L H) (hk : Keeps F w w') (hF : ∀ k, RFp rb lv L k → ¬ F k) : RefAt w' rb lv L H :=
  ⟨hk.at_ h.hd (hF _ (.inl rfl)), ownsRow_keeps h.row hk fun k e => hF k (.inr (.inl e)), fun x hx => (h.wds x hx).keep hk (hF _ (.inr (.inr ⟨x, hx, rfl⟩))), h.ats, h.rms, h.gs⟩
theorem drewN (h : RefAt w rb lv L H) (q : Nat) : RefAt (w.drewN q) rb lv L H := ⟨h.hd, h.row, h.wds, h.ats, h.rms, h.gs⟩
theorem lt (h : RefAt w rb lv L H) : ∀ k, RFp rb lv L k → k < w.heap.size := by
  rintro k (rfl | e | ⟨x, hx, rfl⟩)
  · exact heap_lt h.hd
  · exact (h.row.lt k e).2
  · exact (h.wds x hx).lt
theorem c0 (h : RefAt w rb lv L H) : w.cell? ⟨rb, 0, none⟩ = some (.int .i64 (H.n : Nat)) := by simp [World.cell?, h.hd]
theorem c1 (h : RefAt w rb lv L H) : w.cell? ⟨rb, 1, none⟩ = some lv := by simp [World.cell?, h.hd]
theorem fr (h : RefAt w rb lv L H) (i : Nat) : w.frozen? ⟨rb, i, none⟩ = false := by simp [World.frozen?, h.hd]
theorem len (h : RefAt w rb lv L H) : L.length = H.blocks.length := by rw [← h.ats, List.length_map]
theorem len_le (h : RefAt w rb lv L H) (hW : H.Wf) : L.length ≤ 1048576 := by
  rw [h.len]
  have := HS.blocksTo_length H H.n
  have := hW.nb
  unfold HS.blocks
  omega
theorem slice (h : RefAt w rb lv L H) : ∃ a c, lv = .slice a L.length c ∧ L.length ≤ c := ownsRow_slice h.row
/-- The i-th block. -/
theorem at_ {al : Option Addr} {n cl : Nat} (h : RefAt w rb (.slice al n cl) L H) {i : Nat} (hi : i < L.length) : ∃ b, al = some ⟨b, 0, none⟩ ∧ n = L.length ∧
    w.cell? ⟨b, i * 3, none⟩ = some (.int .i64 (ra L i : Nat)) ∧ w.cell? ⟨b, i * 3 + 1, none⟩ = some (.int .i64 (rr L i : Nat)) ∧ w.cell? ⟨b, i * 3 + 2, none⟩ = some (.slice (some ⟨rg L i, 0, none⟩) (rr L i) (rr L i)) := by
  obtain ⟨b, c, e, _, _⟩ := h.row.form (by omega)
  injection e with e1 e2 e3
  subst e1
  subst e2
  have hx : L[i]? = some L[i] := List.getElem?_eq_getElem hi
  have hc : ∀ j, j < 3 → w.cell? ⟨b, i * 3 + j, none⟩ = L[i].cells[j]? := by
    intro j hj
    rw [← rball_at hx j hj]
    exact World.ownsRow.cellAt h.row (i * 3 + j) (by omega)
  unfold ra rr rg
  rw [rb_get hi]
  exact ⟨b, rfl, rfl, hc 0 (by omega), hc 1 (by omega), hc 2 (by omega)⟩
theorem mem_iff (h : RefAt w rb lv L H) (a : Nat) : a ∈ H.blocks ↔ ∃ i, i < L.length ∧ ra L i = a := by
  rw [← h.ats, List.mem_map]
  constructor
  · rintro ⟨x, hx, rfl⟩
    obtain ⟨i, hi, e⟩ := List.getElem_of_mem hx
    exact ⟨i, hi, by unfold ra; rw [rb_get hi, e]⟩
  · rintro ⟨i, hi, rfl⟩
    exact ⟨_, List.getElem_mem hi, by unfold ra; rw [rb_get hi]⟩
theorem room_at (h : RefAt w rb lv L H) {i : Nat} (hi : i < L.length) : rr L i = H.room (ra L i) := by
  have := h.rms _ (List.getElem_mem hi)
  unfold rr ra
  rw [rb_get hi]; exact this
theorem room_ne (h : RefAt w rb lv L H) (hW : H.Wf) {i : Nat} (hi : i < L.length) : H.room (ra L i) ≠ 0 := (hW.mem_blocks _).1 ((h.mem_iff _).2 ⟨i, hi, rfl⟩)
theorem wds_at (h : RefAt w rb lv L H) {i : Nat} (hi : i < L.length) : Row w (rg L i) 3 .i64 (rr L i) (fun k => H.words (ra L i + k)) := by
  have := h.wds _ (List.getElem_mem hi)
  unfold rr ra rg
  rw [rb_get hi]; exact this
theorem rising (h : RefAt w rb lv L H) {i j : Nat} (hi : i < j) (hj : j < L.length) : ra L i < ra L j := by
  have := List.pairwise_iff_getElem.1 H.blocks_sorted i j (by rw [← h.len]; omega) (by rw [← h.len]; omega) hi
  simp only [← h.ats, List.getElem_map] at this
  unfold ra
  rw [rb_get hj, rb_get (show i < L.length by omega)]
  exact this
end RefAt

/-- Where x stands in the list of blocks, or -1. -/
def RB.find (L : List RB) (x : Int) : Int := match first (fun i => decide ((ra L i : Int) = x)) L.length with
  | some i => (i : Int)
  | none => -1
theorem RB.find_yes {L : List RB} {x : Int} {i : Nat} (hi : i < L.length) (he : (ra L i : Int) = x) (hj : ∀ j, j < i → (ra L j : Int) ≠ x) : RB.find L x = i := by
  unfold RB.find
  rw [first_some.2 ⟨hi, decide_eq_true he, fun j hj' => decide_eq_false (hj j hj')⟩]
theorem RB.find_no {L : List RB} {x : Int} (h : ∀ i, i < L.length → (ra L i : Int) ≠ x) : RB.find L x = -1 := by
  unfold RB.find
  rw [first_none.2 fun j hj => decide_eq_false (h j hj)]
theorem RefAt.find_at {w : World} {rb : Nat} {lv : Value} {L : List RB} {H : HS} (h : RefAt w rb lv L H) {i : Nat} (hi : i < L.length) : RB.find L (ra L i : Nat) = i :=
  RB.find_yes hi rfl fun j hj e => by have := h.rising hj hi; omega
/-- Find tells whether there is a block. -/
theorem RefAt.find_room {w : World} {rb : Nat} {lv : Value} {L : List RB} {H : HS} (h : RefAt w rb lv L H) (hW : H.Wf) (x : Int) : (H.roomI x = 0 ∧ RB.find L x = -1) ∨ ∃ i, i < L.length ∧ x = (ra L i : Nat) ∧ RB.find L x = i ∧ H.roomI x = rr L i ∧ rr L i ≠ 0 := by
  by_cases e : ∃ i, i < L.length ∧ x = (ra L i : Nat)
  · obtain ⟨i, hi, rfl⟩ := e
    have := h.room_ne hW hi
    rw [← h.room_at hi] at this
    exact .inr ⟨i, hi, rfl, h.find_at hi, by rw [HS.roomI_nat, ← h.room_at hi], this⟩
  · refine .inl ⟨?_, RB.find_no fun i hi e' => e ⟨i, hi, e'.symm⟩⟩
    unfold HS.roomI
    split
    · rfl
    · apply Classical.byContradiction
      intro hr
      obtain ⟨i, hi, e'⟩ := (h.mem_iff _).1 ((hW.mem_blocks _).2 hr)
      exact e ⟨i, hi, by omega⟩
end Go.Proofs.Ytnbiofcfphpikaa

namespace Go.Proofs.Ytnbiofcfphpikaa
open Go.RowKit

section
variable {w : World} {rb : Nat} {lv : Value} {L : List RB} {H : HS}

set_option maxRecDepth 100000 in
set_option maxHeartbeats 4000000 in
theorem rfind_calls (h : RefAt w rb lv L H) (hW : H.Wf) (x : Int) :
    Calls Try.prog 80 #[.pointer (some ⟨rb, 0, none⟩), .int .i64 x] w fun e w' => e = .returned (.int .i64 (RB.find L x)) ∧ ∃ q, w' = w.drewN q := by
  have hlen := h.len_le hW
  obtain ⟨al, cl, rfl, hcl⟩ := h.slice
  have c1 := h.c1
  have HA := Lib.hid h
  have HFN : Hid ((∀ i, i < L.length → (ra L i : Int) ≠ x) → RB.find L x = -1) := RB.find_no
  have HFY : Hid (∀ i, i < L.length → (ra L i : Int) = x → (∀ j, j < i → (ra L j : Int) ≠ x) → RB.find L x = i) := fun i hi he hj => RB.find_yes hi he hj
  have HL : Hid (L.length = L.length) := rfl
  clear h hW
  obtain ⟨n, HN⟩ : ∃ n, Hid (n = L.length) := ⟨_, rfl⟩
  rw [← HN.out] at HA HFN HFY hlen c1 hcl
  generalize RB.find L x = r at *
  go_enter Try.func80, Try.ntmps80
  go_wp2
  go_loopw [5] (fun i wr => ∃ k : Nat, k ≤ n ∧ i = .int .i64 k ∧ (∃ q, wr = w.drewN q) ∧ Hid (∀ j, j < k → (ra L j : Int) ≠ x)) (fun i _ => n - (intOf i).toNat)
  case atStart => exact ⟨0, Nat.zero_le _, rfl, ⟨0, rfl⟩, fun j hj => by omega⟩
  case round =>
    obtain ⟨k, hk, rfl, ⟨q, rfl⟩, hP⟩ := hrel
    by_cases hlt : k < n
    · have dk : decide (k < n) = true := decide_eq_true hlt
      obtain ⟨b, rfl, -, e1, -, -⟩ := HA.out.at_ (i := k) (by rw [← HN.out]; exact hlt)
      by_cases heq : (ra L k : Int) = x
      · have HR := Lib.hid (HFY.out k hlt heq hP.out)
        have dq : ((ra L k : Int) == x) = true := beq_iff_eq.2 heq
        generalize ra L k = y at *
        clear heq
        go_wp2
        go_ret
        exact ⟨by rw [HR.out]; rfl, _, rfl⟩
      · have dq : ((ra L k : Int) == x) = false := beq_eq_false_iff_ne.2 heq
        have HP2 : Hid (∀ j, j < k + 1 → (ra L j : Int) ≠ x) := by
          intro j hj
          by_cases e : j = k
          · subst e; exact heq
          · exact hP.out j (by omega)
        generalize ra L k = y at *
        clear heq hP
        go_wp2
        go_roundw
        case rel => exact ⟨k + 1, by omega, by go_num, ⟨_, rfl⟩, HP2⟩
        case measure => simp [intOf]; omega
    · obtain rfl : n = k := by omega
      have dk : decide (n < n) = false := by simp
      have HR := Lib.hid (HFN.out hP.out)
      go_wp2
      go_ret
      exact ⟨by rw [HR.out]; rfl, _, rfl⟩

set_option maxRecDepth 100000 in
set_option maxHeartbeats 4000000 in
theorem rclass_calls (h : RefAt w rb lv L H) (hW : H.Wf) (s : Nat) (hs1 : 1 ≤ s) (hs : s < H.n) :
    Calls Try.prog 83 #[.pointer (some ⟨rb, 0, none⟩), .int .i64 s] w fun e w' => e = .returned (.int .i64 (H.rcls s)) ∧ Keeps (fun _ => False) w w' := by
  have hlen := h.len_le hW
  obtain ⟨al, cl, rfl, hcl⟩ := h.slice
  have c1 := h.c1
  have HA := Lib.hid h
  have hnb := hW.nb
  have hs16 : s < 16384 := by omega
  have HIT : Hid (∀ i, i < L.length → ra L i < 64 * s + 64 → 64 * s < ra L i + rr L i → (64 < rr L i → H.rcls s = -1) ∧ (rr L i ≤ 64 → H.rcls s = (rr L i : Nat))) := by
    intro i hi h1 h2
    have := h.room_at hi
    rw [this] at h2 ⊢
    exact hW.hit (h.room_ne hW hi) h1 h2
  have HMS : Hid ((∀ i, i < L.length → ¬ (ra L i < 64 * s + 64 ∧ 64 * s < ra L i + rr L i)) → H.rcls s = 0) := by
    intro hno
    rw [HS.rcls_zero]
    refine hW.miss hs hs1 fun a ha => ?_
    obtain ⟨i, hi, rfl⟩ := (h.mem_iff a).1 ((hW.mem_blocks a).2 ha)
    have := hno i hi
    rw [h.room_at hi] at this
    exact this
  have HB : Hid (∀ i, i < L.length → ra L i ≤ 1048576 ∧ rr L i ≤ 1048576) := by
    intro i hi
    have h1 := hW.inside (h.room_ne hW hi)
    rw [h.room_at hi]
    exact ⟨by omega, h1.2.2.2.2⟩
  clear h hW hs hnb
  obtain ⟨n, HN⟩ : ∃ n, Hid (n = L.length) := ⟨_, rfl⟩
  rw [← HN.out] at HA HIT HMS HB hlen c1 hcl
  generalize H.rcls s = rc at *
  have HK0 : Hid (Keeps (fun _ => False) w w) := Keeps.refl _ _
  go_enter Try.func83, Try.ntmps83
  go_wp2
  go_loopw [5] (fun i wr => ∃ k : Nat, k ≤ n ∧ i = .int .i64 k ∧ Hid (Keeps (fun _ => False) w wr) ∧ Hid (∀ j, j < k → ¬ (ra L j < 64 * s + 64 ∧ 64 * s < ra L j + rr L j))) (fun i _ => n - (intOf i).toNat)
  case atStart => exact ⟨0, Nat.zero_le _, rfl, HK0, fun j hj => by omega⟩
  case round =>
    clear HK0
    obtain ⟨k, hk, rfl, hK, hP⟩ := hrel
    have c1' := hK.out.cell0 c1
    by_cases hlt : k < n
    · have dk : decide (k < n) = true := decide_eq_true hlt
      obtain ⟨b, rfl, -, e1, e2, e3⟩ := HA.out.at_ (i := k) (by rw [← HN.out]; exact hlt)
      have e1' := hK.out.cell0 e1
      have e2' := hK.out.cell0 e2
      have e3' := hK.out.cell0 e3
      obtain ⟨b1, b2⟩ := HB.out k hlt
      have HK2 : ∀ o, Hid (Keeps (fun _ => False) w (wr.alloc o)) := fun o => hK.out.alloc o
      by_cases heq : ra L k < 64 * s + 64 ∧ 64 * s < ra L k + rr L k
      · have hh := HIT.out k hlt heq.1 heq.2
        obtain ⟨q1, q2⟩ := heq
        generalize ra L k = y at *
        generalize rr L k = z at *
        generalize rg L k = g at *
        have t1 : decide ((y : Int) < 64 * (s : Int) + 64) = true := decide_eq_true (by omega)
        have t2 : decide (64 * (s : Int) < (y : Int) + (z : Int)) = true := decide_eq_true (by omega)
        by_cases h64 : 64 < z
        · have t3 : decide ((64 : Int) < (z : Int)) = true := decide_eq_true (by omega)
          have HR := Lib.hid (hh.1 h64)
          clear hh e1 e2 e3
          go_wp2
          go_ret
          exact ⟨by rw [HR.out]; rfl, (HK2 _).out⟩
        · have t3 : decide ((64 : Int) < (z : Int)) = false := decide_eq_false (by omega)
          have HR := Lib.hid (hh.2 (by omega))
          clear hh e1 e2 e3
          go_wp2
          go_ret
          exact ⟨by rw [HR.out]; rfl, (HK2 _).out⟩
      · have HP2 : Hid (∀ j, j < k + 1 → ¬ (ra L j < 64 * s + 64 ∧ 64 * s < ra L j + rr L j)) := by
          intro j hj
          by_cases e : j = k
          · subst e; exact heq
          · exact hP.out j (by omega)
        generalize ra L k = y at *
        generalize rr L k = z at *
        generalize rg L k = g at *
        clear hP e1 e2 e3
        by_cases q1 : y < 64 * s + 64
        · have t1 : decide ((y : Int) < 64 * (s : Int) + 64) = true := decide_eq_true (by omega)
          have t2 : decide (64 * (s : Int) < (y : Int) + (z : Int)) = false := decide_eq_false (by omega)
          clear heq
          go_wp2
          go_roundw
          case rel => exact ⟨k + 1, by omega, by go_num, (HK2 _).out, HP2⟩
          case measure => simp [intOf]; omega
        · have t1 : decide ((y : Int) < 64 * (s : Int) + 64) = false := decide_eq_false (by omega)
          clear heq
          go_wp2
          go_roundw
          case rel => exact ⟨k + 1, by omega, by go_num, (HK2 _).out, HP2⟩
          case measure => simp [intOf]; omega
    · obtain rfl : n = k := by omega
      have dk : decide (n < n) = false := by simp
      have HR := Lib.hid (HMS.out fun i hi => hP.out i hi)
      go_wp2
      go_ret
      exact ⟨by rw [HR.out]; rfl, hK.out⟩
end
end Go.Proofs.Ytnbiofcfphpikaa

namespace Go.Proofs.Ytnbiofcfphpikaa
open Go.RowKit

theorem info_block : (Try.prog.info? 112).map (fun i => (i.zero, i.size, i.bytes)) = some (some (.agg #[.int .i64 0, .int .i64 0, .slice none 0 0]), 3, 40) := by kernel_rfl
theorem underlying_blocks : Try.prog.underlying 95 = some (.slice 112) := by kernel_rfl
theorem rb_cells (x : RB) : ∀ u ∈ x.cells, u.oneCell' = true := by
  intro u hu
  simp [RB.cells] at hu
  rcases hu with rfl | rfl | rfl <;> rfl
theorem grownBy_keeps {w w' : World} {row : Option Nat} (h : w.grownBy w' row) : Keeps (fun k => row = some k) w w' :=
  ⟨h.os, h.tape, h.output, h.size, fun k hk hn => h.block k hk (fun e => hn e.symm)⟩

section
variable {w : World}
/-- append of one block. -/
theorem wpList_appRB {ops : Array Oper} {rest : List Oper} {o : Oper} {a : Act} {Q : Exit → Act → World → Prop} (hgd : o.guard = none) (s x : Operand)
    (ho : o.op = .call { callee := .builtin .append, args := #[s, x], argTypes := #[ (95 : Nat) , (95 : Nat) ] })
    (base : Nat) (v : Value) (n : Nat) (xs : List Value) (hs : a.eval s = v) (hown : w.ownsRow base 112 3 v n xs) (b c : Nat) (y : RB) (fr : Nat × Nat) (hx : a.eval x = .slice (some ⟨b, 0, none⟩) 1 c)
    (hb : w.heap[b]? = some (.cells #[.int .i64 (y.a : Nat), .int .i64 (y.r : Nat), .slice (some ⟨y.g, 0, none⟩) y.r y.r] 112 fr)) (hn : n ≤ 1000000000) (hbase : base ≤ w.heap.size)
    (h : ∀ g cap w', w'.ownsRow base 112 3 (.slice (some ⟨g, 0, none⟩) (n + 1) cap) (n + 1) (xs ++ y.cells) → Keeps (fun k => v.ownBlock = some k) w w' → wpList Try.prog ops Q rest (a.put o.dst (.slice (some ⟨g, 0, none⟩) (n + 1) cap)) w') : wpList Try.prog ops Q (o :: rest) a w := by
  obtain ⟨i3, hi3, hy0, hy1, hy2⟩ := info_parts info_block
  refine wpList_append_lies w hgd s x 95 ho base 112 i3 _ 3 40 underlying_blocks hi3 hy0 hy1 hy2 (by rfl) (by omega) v n xs hs hown ⟨b, 0, none⟩ 1 c y.cells hx rfl
    (World.news_of_block hb) (rb_cells y) (by omega) (by unfold maxLen; omega) (by omega) hbase _ rfl ?_
  intro g cap w' hO hG _ _
  exact h g cap w' hO (grownBy_keeps hG)
end

theorem take_snoc {L : List RB} {k : Nat} (h : k < L.length) : L.take (k + 1) = L.take k ++ [L.getD k ⟨0, 0, 0⟩] := by
  rw [rb_get h, List.take_succ_eq_append_getElem h]
theorem drop_take_snoc {L : List RB} {j k : Nat} (hj : j ≤ k) (h : k < L.length) : (L.drop j).take (k + 1 - j) = (L.drop j).take (k - j) ++ [L.getD k ⟨0, 0, 0⟩] := by
  have h1 : k - j < (L.drop j).length := by rw [List.length_drop]; omega
  rw [show k + 1 - j = k - j + 1 by omega, List.take_succ_eq_append_getElem h1, rb_get h, List.getElem_drop]
  congr 2
  simp only [show j + (k - j) = k by omega]

/-- What add has built behind k rounds: the new block is not in it .. -/
structure OutN (w wr : World) (L : List RB) (a : Nat) (v : Value) (k : Nat) : Prop where
  keeps : Keeps (fun _ => False) w wr
  row : wr.ownsRow w.heap.size 112 3 v k (rball (L.take k))
  low : ∀ i, i < k → ra L i < a
/-- .. or it is, behind j others. -/
structure OutY (w wr : World) (L : List RB) (a r : Nat) (v : Value) (k j g : Nat) : Prop where
  keeps : Keeps (fun _ => False) w wr
  row : wr.ownsRow w.heap.size 112 3 v (k + 1) (rball (L.take j ++ ⟨a, r, g⟩ :: (L.drop j).take (k - j)))
  le : j ≤ k
  low : ∀ i, i < j → ra L i < a
  high : ∀ i, j ≤ i → i < L.length → a < ra L i
  wds : Row wr g 3 .i64 r (fun _ => 0)
  new : w.heap.size ≤ g

section
variable {w wr wa wb : World} {L : List RB} {a r k j g : Nat} {v v' : Value}
theorem OutN.start (w : World) (L : List RB) (a : Nat) : OutN w w L a (.slice none 0 0) 0 := ⟨Keeps.refl _ _, World.ownsRow_nil _ _ _ _, fun i hi => by omega⟩
theorem OutN.same (h : OutN w wr L a v k) (hk : k < L.length) (hlt : ra L k < a) {o : Obj} (hO : wa.ownsRow w.heap.size 112 3 v' (k + 1) (rball (L.take k) ++ (L.getD k ⟨0, 0, 0⟩).cells)) (hK : Keeps (fun b => v.ownBlock = some b) (wr.alloc o) wa) :
    OutN w wa L a v' (k + 1) := by
  refine ⟨(h.keeps.alloc o).trans hK (fun b hb e => by have := (h.row.lt b e).1; omega), ?_, fun i hi => ?_⟩
  · rw [take_snoc hk, rball_append, rball_one]; exact hO
  · by_cases e : i = k
    · subst e; exact hlt
    · exact h.low i (by omega)
theorem OutY.past (h : OutY w wr L a r v k j g) (hk : k < L.length) (hv : v.ownBlock ≠ some g) {o : Obj} (hO : wa.ownsRow w.heap.size 112 3 v' (k + 1 + 1) (rball (L.take j ++ ⟨a, r, g⟩ :: (L.drop j).take (k - j)) ++ (L.getD k ⟨0, 0, 0⟩).cells)) (hK : Keeps (fun b => v.ownBlock = some b) (wr.alloc o) wa) :
    OutY w wa L a r v' (k + 1) j g := by
  refine ⟨(h.keeps.alloc o).trans hK (fun b hb e => by have := (h.row.lt b e).1; omega), ?_, by have := h.le; omega, h.low, h.high, (h.wds.alloc o).keep hK hv, h.new⟩
  rw [drop_take_snoc h.le hk, ← List.cons_append, ← List.append_assoc, rball_append, rball_one]
  exact hO
/-- A row of blocks and a row of words lie apart. -/
theorem ownsRow_row_ne {w : World} {base n m : Nat} {v : Value} {xs : List Value} {g : Nat} {f : Nat → Int} (h : w.ownsRow base 112 3 v n xs) (hr : Row w g 3 .i64 m f) : v.ownBlock ≠ some g := by
  intro e
  rcases h.2 with ⟨rfl, _⟩ | ⟨g', cap, cur, rfl, _, hg, _⟩
  · simp [Value.ownBlock] at e
  · simp [Value.ownBlock] at e
    subst e
    obtain ⟨c, hc, _⟩ := hr
    rw [hc] at hg
    simp at hg
theorem OutN.put (h : OutN w wr L a v k) {Z : Array Value} (hZ : Z.size = r ∧ ∀ i, i < r → Z[i]? = some (.int .i64 0)) {o : Obj}
    (hO : wa.ownsRow w.heap.size 112 3 v' (k + 1) (rball (L.take k) ++ RB.cells ⟨a, r, wr.heap.size⟩)) (hK : Keeps (fun b => v.ownBlock = some b) ((wr.alloc (.cells Z 3)).alloc o) wa)
    (hhigh : ∀ i, k ≤ i → i < L.length → a < ra L i) : OutY w wa L a r v' k k wr.heap.size := by
  have hs := h.keeps.size
  have hv : ∀ b, v.ownBlock = some b → b < wr.heap.size := fun b e => (h.row.lt b e).2
  refine ⟨((h.keeps.alloc _).alloc o).trans hK (fun b hb e => by have := (h.row.lt b e).1; omega), ?_, Nat.le_refl _, h.low, hhigh, ?_, hs⟩
  · rw [Nat.sub_self, List.take_zero, rball_append, rball_one]; exact hO
  · have h1 : Row (wr.alloc (.cells Z 3)) wr.heap.size 3 .i64 r (fun _ => 0) := ⟨Z, heap_alloc_new wr _, hZ.1, fun i hi => hZ.2 i hi⟩
    exact (h1.alloc o).keep hK (fun e => by have := hv _ e; omega)
end

set_option maxRecDepth 100000 in
set_option maxHeartbeats 4000000 in
theorem radd_calls {w : World} {rb : Nat} {lv : Value} {L : List RB} {H : HS} (h : RefAt w rb lv L H) (hW : H.Wf) (a r : Nat) (hr2 : 2 ≤ r) (hr : r ≤ 1048576) (ha : a ≤ 1048576) (hne : ∀ i, i < L.length → ra L i ≠ a) :
    Calls Try.prog 88 #[.pointer (some ⟨rb, 0, none⟩), .int .i64 a, .int .i64 r] w fun e w' => e = .returned (.int .i64 a) ∧ ∃ wx v j g, Hid (OutY w wx L a r v L.length j g) ∧ w' = wx.setCell ⟨rb, 1, none⟩ v := by
  have hlen := h.len_le hW
  obtain ⟨al, cl, rfl, hcl⟩ := h.slice
  have c1 := h.c1
  have f1 := h.fr 1
  have HA := Lib.hid h
  have HCE : Hid (∀ i, i < L.length → ∃ b, al = some ⟨b, 0, none⟩ ∧ ∀ wx, Keeps (fun _ => False) w wx → wx.cell? ⟨b, i * 3, none⟩ = some (.int .i64 (ra L i : Nat)) ∧ wx.cell? ⟨b, i * 3 + 1, none⟩ = some (.int .i64 (rr L i : Nat)) ∧ wx.cell? ⟨b, i * 3 + 2, none⟩ = some (.slice (some ⟨rg L i, 0, none⟩) (rr L i) (rr L i))) := by
    intro i hi
    obtain ⟨b, e0, -, e1, e2, e3⟩ := h.at_ hi
    exact ⟨b, e0, fun wx hk => ⟨hk.cell0 e1, hk.cell0 e2, hk.cell0 e3⟩⟩
  have HB : Hid (∀ i, i < L.length → ra L i ≤ 1048576 ∧ rr L i ≤ 1048576) := by
    intro i hi
    have h1 := hW.inside (h.room_ne hW hi)
    have hnb := hW.nb
    rw [h.room_at hi]
    exact ⟨by omega, h1.2.2.2.2⟩
  have HRS : Hid (∀ i j, i < j → j < L.length → ra L i < ra L j) := fun i j hi hj => h.rising hi hj
  have HNE := Lib.hid hne
  have HC1 := Lib.hid c1
  have HF1 := Lib.hid (fun wx (hk : Keeps (fun _ => False) w wx) => (show wx.frozen? ⟨rb, 1, none⟩ = false by
    have := hk.at_ h.hd (fun h => h)
    simp [World.frozen?, this]))
  clear h hW hne f1
  obtain ⟨n, HN⟩ : ∃ n, Hid (n = L.length) := ⟨_, rfl⟩
  rw [← HN.out] at HCE HB HNE HRS hlen hcl HC1 c1
  obtain ⟨Z, hZ, mk⟩ := make_ints r hr
  have HZ := Lib.hid hZ
  clear hZ
  have HS0 : Hid (OutN w w L a (.slice none 0 0) 0) := OutN.start w L a
  have hpos : (0 : Int) ≤ (r : Int) := by omega
  go_enter Try.func88, Try.ntmps88
  go_wp2
  clear c1
  go_loopw [7, 8, 9] (fun v D i wr => ∃ k : Nat, k ≤ n ∧ i = .int .i64 k ∧ ((D = .bool false ∧ Hid (OutN w wr L a v k)) ∨ (D = .bool true ∧ ∃ j g, Hid (OutY w wr L a r v k j g)))) (fun _ _ i _ => n - (intOf i).toNat)
  case atStart => exact ⟨0, Nat.zero_le _, rfl, .inl ⟨rfl, HS0⟩⟩
  case round =>
    clear HS0
    obtain ⟨k, hk, rfl, hD⟩ := hrel
    by_cases hlt : k < n
    · have dk : decide (k < n) = true := decide_eq_true hlt
      obtain ⟨b, rfl, hce⟩ := HCE.out k hlt
      have HCK := Lib.hid hce
      obtain ⟨b1, b2⟩ := HB.out k hlt
      have hkl : Hid (k < L.length) := by show _; rw [← HN.out]; exact hlt
      obtain ⟨y, hy⟩ : ∃ y, y = ra L k := ⟨_, rfl⟩
      obtain ⟨z, hz⟩ : ∃ z, z = rr L k := ⟨_, rfl⟩
      obtain ⟨gk, hg⟩ : ∃ g, g = rg L k := ⟨_, rfl⟩
      have HX : Hid (L.getD k ⟨0, 0, 0⟩ = ⟨y, z, gk⟩) := by rw [hy, hz, hg]; rfl
      have HY := Lib.hid hy
      rw [← hy] at b1
      rw [← hz] at b2
      rw [← hy, ← hz, ← hg] at HCK
      clear hy hz hg hce
      rcases hD with ⟨rfl, hS⟩ | ⟨rfl, j, g, hS⟩
      · have c1' := hS.out.keeps.cell0 HC1.out
        have hbs := hS.out.keeps.size
        obtain ⟨e1, e2, e3⟩ := HCK.out wr hS.out.keeps
        by_cases hya : a < y
        · have hhigh : Hid (∀ i, k ≤ i → i < L.length → a < ra L i) := by
            intro i h1 h2
            have := HY.out
            by_cases e : k = i
            · subst e; omega
            · have := HRS.out k i (by omega) (by rw [HN.out]; exact h2); omega
          have t1 : decide ((a : Int) < (y : Int)) = true := decide_eq_true (by omega)
          have t1n : decide (a < y) = true := decide_eq_true hya
          go_wp2_with (at_builtin; first | (refine wpList_appRB rfl _ _ rfl w.heap.size _ k _ rfl ((hS.out.row.alloc _).alloc _) _ 1 ⟨a, r, wr.heap.size⟩ (0, 0) rfl (by simpa using heap_alloc_new (wr.alloc (.cells Z 3)) _) (by omega) (by simp; omega) ?_; intro g1 cap1 w3 hO1 hK1; have HT := Lib.hid (hS.out.put HZ.out hO1 hK1 hhigh.out); clear hO1 hK1; have c3 := HT.out.keeps.cell0 HC1.out; have hcs := HCK.out w3 HT.out.keeps; obtain ⟨n1, n2, n3⟩ := hcs; have hbs3 := HT.out.keeps.size) | (refine wpList_appRB rfl _ _ rfl w.heap.size _ (k + 1) _ rfl (HT.out.row.alloc _) _ 1 ⟨y, z, gk⟩ (0, 0) rfl (heap_alloc_new _ _) (by omega) (by simp; omega) ?_; intro g2 cap2 w4 hO2 hK2))
          rw [← HX.out] at hO2
          have HN2 := Lib.hid (HT.out.past hkl.out (ownsRow_row_ne HT.out.row HT.out.wds) hO2 hK2)
          clear hO2 hK2 HT hS
          go_wp2
          go_roundw
          case rel => exact ⟨k + 1, by omega, by go_num, .inr ⟨rfl, _, _, HN2⟩⟩
          case measure => simp [intOf]; omega
        · have t1 : decide ((a : Int) < (y : Int)) = false := decide_eq_false (by omega)
          have t1n : decide (a < y) = false := decide_eq_false hya
          have HLT : Hid (ra L k < a) := by
            have h1 := HNE.out k hlt
            have h2 := HY.out
            show _ < _
            omega
          go_wp2_with (at_builtin; refine wpList_appRB rfl _ _ rfl w.heap.size _ k _ rfl (hS.out.row.alloc _) _ 1 ⟨y, z, gk⟩ (0, 0) rfl (heap_alloc_new _ _) (by omega) (by simp; omega) ?_; intro g2 cap2 w4 hO2 hK2)
          rw [← HX.out] at hO2
          have HN2 := Lib.hid (hS.out.same hkl.out HLT.out hO2 hK2)
          clear hO2 hK2 hS
          go_wp2
          go_roundw
          case rel => exact ⟨k + 1, by omega, by go_num, .inl ⟨rfl, HN2⟩⟩
          case measure => simp [intOf]; omega
      · have c1' := hS.out.keeps.cell0 HC1.out
        have hbs := hS.out.keeps.size
        obtain ⟨e1, e2, e3⟩ := HCK.out wr hS.out.keeps
        go_wp2_with (at_builtin; refine wpList_appRB rfl _ _ rfl w.heap.size _ (k + 1) _ rfl (hS.out.row.alloc _) _ 1 ⟨y, z, gk⟩ (0, 0) rfl (heap_alloc_new _ _) (by omega) (by simp; omega) ?_; intro g2 cap2 w4 hO2 hK2)
        rw [← HX.out] at hO2
        have HN2 := Lib.hid (hS.out.past hkl.out (ownsRow_row_ne hS.out.row hS.out.wds) hO2 hK2)
        clear hO2 hK2 hS
        go_wp2
        go_roundw
        case rel => exact ⟨k + 1, by omega, by go_num, .inr ⟨rfl, _, _, HN2⟩⟩
        case measure => simp [intOf]; omega
    · obtain rfl : n = k := by omega
      have dk : decide (n < n) = false := by simp
      rcases hD with ⟨rfl, hS⟩ | ⟨rfl, j, g, hS⟩
      · have c1' := hS.out.keeps.cell0 HC1.out
        have hbs := hS.out.keeps.size
        have hhigh : Hid (∀ i, n ≤ i → i < L.length → a < ra L i) := by
          intro i h1 h2
          have := HN.out
          omega
        go_wp2_with (at_builtin; refine wpList_appRB rfl _ _ rfl w.heap.size _ n _ rfl ((hS.out.row.alloc _).alloc _) _ 1 ⟨a, r, wr.heap.size⟩ (0, 0) rfl (by simpa using heap_alloc_new (wr.alloc (.cells Z 3)) _) (by omega) (by simp; omega) ?_; intro g1 cap1 w3 hO1 hK1; have HT := Lib.hid (hS.out.put HZ.out hO1 hK1 hhigh.out); clear hO1 hK1; have c3 := HT.out.keeps.cell0 HC1.out; have f3 := HF1.out w3 HT.out.keeps)
        go_ret
        exact ⟨rfl, w3, _, n, _, by rw [← HN.out]; exact HT, rfl⟩
      · have c1' := hS.out.keeps.cell0 HC1.out
        have f3 := HF1.out wr hS.out.keeps
        obtain ⟨av, cv, rfl, -⟩ := ownsRow_slice hS.out.row
        go_wp2
        go_ret
        exact ⟨rfl, wr, _, j, g, by rw [← HN.out]; exact hS, rfl⟩
end Go.Proofs.Ytnbiofcfphpikaa

namespace Go.Proofs.Ytnbiofcfphpikaa
open Go.RowKit

/-- The document's heap H that a call made (w0: its world at the beginning); R: blocks of memory that aren't its. -/
def RefA (w0 w : World) (R : Nat → Prop) (rb : Nat) (H : HS) : Prop :=
  ∃ lv L, RefAt w rb lv L H ∧ (∀ k, RFp rb lv L k → w0.heap.size ≤ k ∧ ¬ R k) ∧ (∀ k, R k → k < w.heap.size)

namespace RefA
variable {w0 w w' : World} {R R' F : Nat → Prop} {rb : Nat} {H H' : HS}
theorem keep (h : RefA w0 w R rb H) (hk : Keeps F w w') (hF : ∀ k, F k → k < w.heap.size → R k) : RefA w0 w' R rb H := by
  obtain ⟨lv, L, h1, h2, h3⟩ := h
  exact ⟨lv, L, h1.keep hk fun k hf hF' => (h2 k hf).2 (hF k hF' (h1.lt k hf)), h2, fun k hk' => Nat.lt_of_lt_of_le (h3 k hk') hk.size⟩
theorem keep0 (h : RefA w0 w R rb H) (hk : Keeps (fun _ => False) w w') : RefA w0 w' R rb H := h.keep hk fun _ h => h.elim
theorem drewN (h : RefA w0 w R rb H) (q : Nat) : RefA w0 (w.drewN q) R rb H := h.keep0 ((Keeps.refl _ w).drewN q)
theorem drew (h : RefA w0 w R rb H) : RefA w0 w.drew R rb H := h.keep0 (Keeps.refl _ w).drew
theorem alloc (h : RefA w0 w R rb H) (o : Obj) : RefA w0 (w.alloc o) R rb H := h.keep0 ((Keeps.refl _ w).alloc o)
/-- New blocks are none of it. -/
theorem more (h : RefA w0 w R rb H) (hk : Keeps F w w') (hF : ∀ k, F k → k < w.heap.size → R k) (hR : ∀ k, R' k → (R k ∨ w.heap.size ≤ k) ∧ k < w'.heap.size) : RefA w0 w' R' rb H := by
  obtain ⟨lv, L, h1, h2, h3⟩ := h
  refine ⟨lv, L, h1.keep hk fun k hf hF' => (h2 k hf).2 (hF k hF' (h1.lt k hf)), fun k hf => ⟨(h2 k hf).1, fun hr => ?_⟩, fun k hr => (hR k hr).2⟩
  rcases (hR k hr).1 with e | e
  · exact (h2 k hf).2 e
  · have := h1.lt k hf; omega
theorem sub (h : RefA w0 w R rb H) (hR : ∀ k, R' k → R k) : RefA w0 w R' rb H := by
  obtain ⟨lv, L, h1, h2, h3⟩ := h
  exact ⟨lv, L, h1, fun k hf => ⟨(h2 k hf).1, fun hr => (h2 k hf).2 (hR k hr)⟩, fun k hr => h3 k (hR k hr)⟩
theorem rb_new (h : RefA w0 w R rb H) : w0.heap.size ≤ rb ∧ ¬ R rb ∧ rb < w.heap.size := by
  obtain ⟨lv, L, h1, h2, h3⟩ := h
  exact ⟨(h2 rb (.inl rfl)).1, (h2 rb (.inl rfl)).2, h1.lt rb (.inl rfl)⟩
theorem c0 (h : RefA w0 w R rb H) : w.cell? ⟨rb, 0, none⟩ = some (.int .i64 (H.n : Nat)) := by
  obtain ⟨lv, L, h1, -⟩ := h
  exact h1.c0
theorem lt (h : RefA w0 w R rb H) {k : Nat} (hR : R k) : k < w.heap.size := by
  obtain ⟨lv, L, -, -, h3⟩ := h
  exact h3 k hR
end RefA

theorem ownsRow_low {w : World} {base base' size n : Nat} {T : TypeId} {v : Value} {xs : List Value} (h : w.ownsRow base T size v n xs) (hb : base' ≤ base) : w.ownsRow base' T size v n xs := by
  refine ⟨h.1, ?_⟩
  rcases h.2 with e | ⟨g, cap, cur, rfl, h1, rest⟩
  · exact .inl e
  · exact .inr ⟨g, cap, cur, rfl, by omega, rest⟩
/-- A block is put into the list. -/
theorem RefAt.add {w wx : World} {rb : Nat} {lv v : Value} {L : List RB} {H H' : HS} {a r j g : Nat} (h : RefAt w rb lv L H) (hW : H.Wf) (hAd : HS.Adds H H' a r) (hY : OutY w wx L a r v L.length j g) :
    RefAt (wx.setCell ⟨rb, 1, none⟩ v) rb v (L.take j ++ ⟨a, r, g⟩ :: L.drop j) H' ∧ Keeps (fun k => k = rb) w (wx.setCell ⟨rb, 1, none⟩ v) := by
  have hx := h.keep hY.keeps (fun _ _ h => h)
  have hK : Keeps (fun k => k = rb) wx (wx.setCell ⟨rb, 1, none⟩ v) := (Keeps.refl (fun k => k = rb) wx).setCell (p := ⟨rb, 1, none⟩) (fun _ => rfl) v
  have hrow := hY.row
  have hdl : (L.drop j).take (L.length - j) = L.drop j := List.take_of_length_le (by rw [List.length_drop]; omega)
  have hll : (L.take j ++ (⟨a, r, g⟩ : RB) :: L.drop j).length = L.length + 1 := by
    have := hY.le
    simp
    omega
  rw [hdl] at hrow
  have hrb : v.ownBlock ≠ some rb := by
    intro e
    rcases hrow.2 with ⟨rfl, _⟩ | ⟨g', cap, cur, rfl, _, hg, _⟩
    · simp [Value.ownBlock] at e
    · simp [Value.ownBlock] at e
      subst e
      rw [hx.hd] at hg
      simp at hg
  have hlt : ∀ k, RFp rb lv L k → k < w.heap.size := h.lt
  have hrbl := hlt rb (.inl rfl)
  have hL : ∀ i, L[i]? = some (L.getD i ⟨0, 0, 0⟩) ∨ L.length ≤ i := by
    intro i
    by_cases hi : i < L.length
    · left; rw [rb_get hi]; exact List.getElem?_eq_getElem hi
    · right; omega
  refine ⟨⟨?_, ?_, ?_, ?_, ?_, ?_⟩, (hY.keeps.mono (fun _ _ h => h.elim)).trans hK (fun k _ e => e)⟩
  · rw [hAd.n]
    have := heap_setCell_same wx rb 1 _ _ v hx.hd
    rw [this]
    rfl
  · rw [hll]
    exact ownsRow_low (ownsRow_keeps hrow hK (fun k e1 e2 => hrb (by rw [e1, e2]))) (Nat.zero_le _)
  · intro x hx'
    have : x ∈ L ∨ x = ⟨a, r, g⟩ := by
      rcases List.mem_append.1 hx' with e | e
      · exact .inl (List.mem_of_mem_take e)
      · rcases List.mem_cons.1 e with e | e
        · exact .inr e
        · exact .inl (List.mem_of_mem_drop e)
    rcases this with e | e
    · have hw := (hx.wds x e).keep hK (fun e' => by
        have h1 := hx.wds x e
        obtain ⟨c, hc, _⟩ := h1
        rw [e'] at hc
        rw [hx.hd] at hc
        simp at hc)
      refine hw.congr fun k hk => ?_
      have hne : H.room x.a ≠ 0 := (hW.mem_blocks _).1 (by rw [← h.ats]; exact List.mem_map.2 ⟨x, e, rfl⟩)
      have hna : x.a ≠ a := fun e' => hne (by rw [e']; exact hAd.was)
      have hr' : H'.room x.a = H.room x.a := hAd.other _ hna
      have := hAd.wf.apart (a := x.a) (b := a) (by rw [hr']; exact hne) (by rw [hAd.is]; exact hAd.pos) hna
      rw [hr', hAd.is, ← h.rms x e] at this
      rw [hAd.words, setr_out _ _ (by omega)]
    · subst e
      have hg : g ≠ rb := fun e => by have := hY.new; omega
      change Row _ g _ _ r (fun k => H'.words (a + k))
      refine (hY.wds.keep hK hg).congr fun k hk => ?_
      rw [hAd.words, setr_in _ _ (by omega) (by omega)]
  · have := hAd.split hW (j := j) (by rw [← h.len]; exact hY.le) (fun x hx' => ?_) (fun x hx' => ?_)
    · rw [this, ← h.ats]; simp
    · rw [← h.ats, ← List.map_take] at hx'
      obtain ⟨y, hy, rfl⟩ := List.mem_map.1 hx'
      obtain ⟨i, hi, rfl⟩ := List.getElem_of_mem hy
      rw [List.length_take] at hi
      have := hY.low i (by omega)
      unfold ra at this
      rw [rb_get (by omega)] at this
      simpa using this
    · rw [← h.ats, ← List.map_drop] at hx'
      obtain ⟨y, hy, rfl⟩ := List.mem_map.1 hx'
      obtain ⟨i, hi, rfl⟩ := List.getElem_of_mem hy
      rw [List.length_drop] at hi
      have := hY.high (j + i) (by omega) (by omega)
      unfold ra at this
      rw [rb_get (by omega)] at this
      simpa using this
  · intro x hx'
    have : x ∈ L ∨ x = ⟨a, r, g⟩ := by
      rcases List.mem_append.1 hx' with e | e
      · exact .inl (List.mem_of_mem_take e)
      · rcases List.mem_cons.1 e with e | e
        · exact .inr e
        · exact .inl (List.mem_of_mem_drop e)
    rcases this with e | e
    · have hne : H.room x.a ≠ 0 := (hW.mem_blocks _).1 (by rw [← h.ats]; exact List.mem_map.2 ⟨x, e, rfl⟩)
      rw [h.rms x e, hAd.other _ (fun e' => hne (by rw [e']; exact hAd.was))]
    · subst e; exact hAd.is.symm
  · have h0 := h.gs
    have hgl : ∀ x ∈ L, x.g ≠ g := fun x hx' e => by
      have := hlt x.g (.inr (.inr ⟨x, hx', rfl⟩))
      have := hY.new
      omega
    rw [List.map_append, List.map_cons]
    have hp : (L.map RB.g).Perm (L.map RB.g) := List.Perm.refl _
    rw [List.nodup_append, List.nodup_cons]
    have e0 : L.map RB.g = (L.take j).map RB.g ++ (L.drop j).map RB.g := by rw [← List.map_append, List.take_append_drop]
    rw [e0, List.nodup_append] at h0
    refine ⟨h0.1, ⟨fun hm => ?_, h0.2.1⟩, fun x hx' y hy e => ?_⟩
    · obtain ⟨z, hz, ez⟩ := List.mem_map.1 hm
      exact hgl z (List.mem_of_mem_drop hz) ez
    · rcases List.mem_cons.1 hy with e' | e'
      · obtain ⟨z, hz, ez⟩ := List.mem_map.1 hx'
        exact hgl z (List.mem_of_mem_take hz) (by rw [ez, e, e'])
      · exact h0.2.2 x hx' y e' e
theorem RefA.radd {w0 w : World} {R : Nat → Prop} {rb : Nat} {H H' : HS} {a r : Nat} (h : RefA w0 w R rb H) (hW : H.Wf) (hAd : HS.Adds H H' a r) :
    Calls Try.prog 88 #[.pointer (some ⟨rb, 0, none⟩), .int .i64 a, .int .i64 r] w fun e w' => e = .returned (.int .i64 a) ∧ Hid (RefA w0 w' R rb H' ∧ Keeps (fun k => k = rb) w w') := by
  obtain ⟨lv, L, h1, h2, h3⟩ := h
  have hin := hAd.wf.inside (a := a) (by rw [hAd.is]; exact hAd.pos)
  have hnb := hAd.wf.nb
  rw [hAd.is] at hin
  refine (radd_calls h1 hW a r hin.2.2.1 hin.2.2.2.2 (by omega) (fun i hi e => ?_)).mono ?_
  · have := h1.room_ne hW hi
    rw [e] at this
    exact this hAd.was
  · rintro e w' ⟨he, wx, v, j, g, hY, rfl⟩
    have hk := h1.add hW hAd hY.out
    refine ⟨he, ⟨v, _, hk.1, fun k hf => ?_, fun k hr => ?_⟩, hk.2⟩
    · have hs : w0.heap.size ≤ w.heap.size := by
        have := (h2 rb (.inl rfl)).1
        have := h1.lt rb (.inl rfl)
        omega
      have new : ∀ k, w.heap.size ≤ k → w0.heap.size ≤ k ∧ ¬ R k := fun k hk => ⟨by omega, fun hr => by have := h3 k hr; omega⟩
      rcases hf with e | e | ⟨x, hx, e⟩
      · exact h2 k (.inl e)
      · exact new k (hY.out.row.lt k e).1
      · have : x ∈ L ∨ x = ⟨a, r, g⟩ := by
          rcases List.mem_append.1 hx with e | e
          · exact .inl (List.mem_of_mem_take e)
          · rcases List.mem_cons.1 e with e | e
            · exact .inr e
            · exact .inl (List.mem_of_mem_drop e)
        rcases this with e' | e'
        · exact h2 k (.inr (.inr ⟨x, e', e⟩))
        · subst e'; subst e; exact new _ hY.out.new
    · exact Nat.lt_of_lt_of_le (h3 k hr) hk.2.size
theorem RefA.rclass {w0 w : World} {R : Nat → Prop} {rb : Nat} {H : HS} (h : RefA w0 w R rb H) (hW : H.Wf) (s : Nat) (hs1 : 1 ≤ s) (hs : s < H.n) :
    Calls Try.prog 83 #[.pointer (some ⟨rb, 0, none⟩), .int .i64 s] w fun e w' => e = .returned (.int .i64 (H.rcls s)) ∧ Keeps (fun _ => False) w w' := by
  obtain ⟨lv, L, h1, -⟩ := h
  exact rclass_calls h1 hW s hs1 hs
/-- Find, for its sign. -/
theorem RefA.rfind {w0 w : World} {R : Nat → Prop} {rb : Nat} {H : HS} (h : RefA w0 w R rb H) (hW : H.Wf) (x : Int) :
    Calls Try.prog 80 #[.pointer (some ⟨rb, 0, none⟩), .int .i64 x] w fun e w' => (∃ i : Int, e = .returned (.int .i64 i) ∧ (H.roomI x = 0 → i = -1) ∧ (H.roomI x ≠ 0 → 0 ≤ i ∧ i ≤ 1048576)) ∧ ∃ q, w' = w.drewN q := by
  obtain ⟨lv, L, h1, -⟩ := h
  have hl := h1.len_le hW
  refine (rfind_calls h1 hW x).mono ?_
  rintro e w' ⟨rfl, hq⟩
  refine ⟨⟨_, rfl, ?_⟩, hq⟩
  rcases h1.find_room hW x with ⟨e1, e2⟩ | ⟨i, hi, rfl, e2, e3, e4⟩
  · rw [e1, e2]; exact ⟨fun _ => rfl, fun h => absurd rfl h⟩
  · rw [e2, e3]; exact ⟨fun h => absurd h e4, fun _ => ⟨by omega, by omega⟩⟩
end Go.Proofs.Ytnbiofcfphpikaa
