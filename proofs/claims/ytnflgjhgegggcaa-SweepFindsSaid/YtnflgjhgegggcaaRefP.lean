/-
  The document's heap as plain data: what Class, Spans, Find, Alloc, row and Free of its list of blocks come to. No program in sight.
-/
import Derived.Test.YtnflgjhgegggcaaSorted
import Derived.Test.YtnflgjhgegggcaaGone
namespace Go.Proofs.Ytnflgjhgegggcaa
/-- Two rising lists of the same members are one. -/
theorem rising_eq : ∀ {l m : List Nat}, l.Pairwise (· < ·) → m.Pairwise (· < ·) → (∀ x, x ∈ l ↔ x ∈ m) → l = m
  | [], [], _, _, _ => rfl
  | [], y :: m, _, _, h => absurd ((h y).2 (List.mem_cons_self ..)) (by simp)
  | x :: l, [], _, _, h => absurd ((h x).1 (List.mem_cons_self ..)) (by simp)
  | x :: l, y :: m, hl, hm, h => by
    rw [List.pairwise_cons] at hl hm
    have e : x = y := by
      have h1 := (h x).1 (List.mem_cons_self ..)
      have h2 := (h y).2 (List.mem_cons_self ..)
      rw [List.mem_cons] at h1 h2
      rcases h1 with h1 | h1
      · exact h1
      · rcases h2 with h2 | h2
        · exact h2.symm
        · have := hl.1 y h2; have := hm.1 x h1; omega
    subst e
    congr 1
    refine rising_eq hl.2 hm.2 fun z => ?_
    have := h z
    rw [List.mem_cons, List.mem_cons] at this
    constructor
    · intro hz
      rcases this.1 (.inr hz) with e | e
      · have := hl.1 z hz; omega
      · exact e
    · intro hz
      rcases this.2 (.inr hz) with e | e
      · have := hm.1 z hz; omega
      · exact e
namespace HS
variable {H H' : HS} {a r : Nat}

/-- The class of a span as the document tells it. -/
def rcls (H : HS) (s : Nat) : Int := if H.cls s = -2 then -1 else H.cls s
theorem rcls_zero {s : Nat} : H.rcls s = 0 ↔ H.cls s = 0 := by
  unfold rcls
  split <;> omega
theorem rcls_class {s c : Nat} (hc : 0 < c) : H.rcls s = (c : Int) ↔ H.cls s = (c : Int) := by
  unfold rcls
  split <;> omega
theorem Wf.hit (hW : H.Wf) {a s : Nat} (ha : H.room a ≠ 0) (h1 : a < 64 * s + 64) (h2 : 64 * s < a + H.room a) :
    (64 < H.room a → H.rcls s = -1) ∧ (H.room a ≤ 64 → H.rcls s = (H.room a : Nat)) := by
  rcases hW.cases ha with ⟨t, ht, h1', hc, ea, hr⟩ | ⟨t, k, c, ht, h1', hc, hcl, hk, hb, ea, hr⟩
  · have hl := hW.lg t ht hc
    rw [hr] at h2 ⊢
    refine ⟨fun _ => ?_, fun h => by omega⟩
    unfold rcls
    by_cases e : s = t
    · rw [if_neg (by rw [e]; omega), e, hc]
    · rw [if_pos (hl.2.2.2 s (by omega) (by omega))]
  · have hd := cl_div hcl hk
    have hp := cl_pos hcl
    rw [hr] at h2 ⊢
    have e : s = t := by omega
    subst e
    refine ⟨fun h => by omega, fun _ => ?_⟩
    rw [rcls_class hp.1]
    exact hc
theorem Wf.some_bit (hW : H.Wf) {s c : Nat} (hs : s < H.n) (hc : H.cls s = (c : Int)) (hcl : Cl (c : Int)) : ∃ k, k < 64 / c ∧ (H.used s).testBit k = true := by
  have hp := cl_pos hcl
  have hu := hW.uc s hs (by omega)
  rw [hc, Int.toNat_natCast] at hu
  apply Classical.byContradiction
  intro hno
  apply hu.1
  apply Nat.eq_of_testBit_eq
  intro i
  rw [Nat.zero_testBit]
  by_cases hi : i < 64 / c
  · cases hb : (H.used s).testBit i with
    | false => rfl
    | true => exact absurd ⟨i, hi, hb⟩ hno
  · exact Nat.testBit_lt_two_pow (Nat.lt_of_lt_of_le hu.2 (Nat.pow_le_pow_right (by omega) (by omega)))
theorem Wf.miss (hW : H.Wf) {s : Nat} (hs : s < H.n) (h1 : 1 ≤ s) (h : ∀ a, H.room a ≠ 0 → ¬ (a < 64 * s + 64 ∧ 64 * s < a + H.room a)) : H.cls s = 0 := by
  rcases hW.kind s hs with e | e | e | e
  · exact e
  · exfalso
    have hl := hW.lg s hs e
    have hr := room_long hs e
    exact h (64 * s) (by omega) (by omega)
  · exfalso
    obtain ⟨f, hf1, hf2, hf3, hf4⟩ := hW.mo s hs h1 e
    have hl := hW.lg f (by omega) hf3
    have hr := room_long (H := H) (s := f) (by omega) hf3
    exact h (64 * f) (by omega) (by omega)
  · exfalso
    obtain ⟨c, hc, hcl⟩ := cl_nat e
    have hp := cl_pos hcl
    obtain ⟨k, hk, hb⟩ := hW.some_bit hs hc hcl
    have hd := cl_div hcl hk
    have hr := room_class hs hc hcl hk
    rw [if_pos hb] at hr
    exact h (64 * s + k * c) (by omega) (by omega)

/-- A span of the class with a free place. -/
theorem hasRoom_no (hW : H.Wf) {s c : Nat} (hs : s < H.n) (hcl : Cl (c : Int)) (h : H.cls s = (c : Int) → ∀ k, k < 64 / c → H.room (64 * s + k * c) ≠ 0) : H.hasRoom c s = false := by
  unfold hasRoom
  by_cases e : H.cls s = (c : Int)
  · rw [decide_eq_true e, Bool.true_and, decide_eq_false_iff_not, Classical.not_not]
    have hp := cl_pos hcl
    have hu := hW.uc s hs (by omega)
    rw [e, Int.toNat_natCast] at hu
    apply Nat.eq_of_testBit_eq
    intro i
    unfold full
    rw [Nat.testBit_two_pow_sub_one]
    by_cases hi : i < 64 / c
    · have := h e i hi
      rw [room_class hs e hcl hi] at this
      rw [decide_eq_true hi]
      cases hb : (H.used s).testBit i with
      | true => rfl
      | false => rw [hb] at this; simp at this
    · rw [decide_eq_false hi]
      exact Nat.testBit_lt_two_pow (Nat.lt_of_lt_of_le hu.2 (Nat.pow_le_pow_right (by omega) (by omega)))
  · rw [decide_eq_false e, Bool.false_and]
theorem hasRoom_zero (hW : H.Wf) (c : Nat) : H.hasRoom c 0 = false := by
  unfold hasRoom
  rw [decide_eq_false (by rw [hW.c0]; omega), Bool.false_and]
theorem alloc_small_eq {x : Nat} (h1 : 1 ≤ x) (hx : x ≤ 64) : H.alloc x = H.allocSmall (classOf x) := by
  unfold alloc
  rw [if_neg (by omega), if_neg (by omega), Int.toNat_natCast]
theorem alloc_run_eq {x : Nat} (h1 : 64 < x) (hx : x ≤ 16448) : H.alloc x = H.allocRun ((x + 63) / 64) := by
  unfold alloc
  rw [if_neg (by omega), if_pos (by omega), Int.toNat_natCast]
theorem alloc_hit (_hW : H.Wf) {s k c : Nat} (hcl : Cl (c : Int)) (hs : s < H.n) (hprev : ∀ t, t < s → H.hasRoom c t = false) (hc : H.cls s = (c : Int)) (hk : k < 64 / c)
    (h0 : H.room (64 * s + k * c) = 0) (hj : ∀ j, j < k → H.room (64 * s + j * c) ≠ 0) : ∃ H', H.allocSmall c = some (64 * s + k * c, H') := by
  have hp := cl_pos hcl
  have hbit : (H.used s).testBit k = false := by
    rw [room_class hs hc hcl hk] at h0
    cases hb : (H.used s).testBit k with
    | false => rfl
    | true => rw [hb, if_pos rfl] at h0; omega
  have hbits : ∀ j, j < k → (H.used s).testBit j = true := by
    intro j hjk
    have := hj j hjk
    rw [room_class hs hc hcl (by omega)] at this
    cases hb : (H.used s).testBit j with
    | true => rfl
    | false => rw [hb] at this; simp at this
  have hyes : H.hasRoom c s = true := by
    unfold hasRoom
    rw [decide_eq_true hc, Bool.true_and, decide_eq_true_eq]
    intro e
    rw [e, full, Nat.testBit_two_pow_sub_one, decide_eq_true hk] at hbit
    cases hbit
  have hf : first (H.hasRoom c) H.n = some s := first_some.2 ⟨hs, hyes, hprev⟩
  have hlz := lz_eq (u := H.used s) (k := k) (by omega) hbit hbits
  unfold allocSmall
  rw [hf]
  refine ⟨H.place s c, ?_⟩
  show some (64 * s + lz (H.used s) * c, _) = _
  rw [hlz]
theorem alloc_new (hW : H.Wf) {s c : Nat} (hs : s < H.n) (hno : ∀ t, t < H.n → H.hasRoom c t = false) (hc : H.cls s = 0) (hf : ∀ t, 1 ≤ t → t < s → H.cls t ≠ 0) :
    ∃ H', H.allocSmall c = some (64 * s, H') := by
  have e1 : first (H.hasRoom c) H.n = none := first_none.2 hno
  have e2 : first H.isFree H.n = some s := first_some.2 ⟨hs, by simp [isFree, hc], fun j hj => by
    unfold isFree
    rcases Nat.eq_zero_or_pos j with e | e
    · subst e; rw [decide_eq_false (by rw [hW.c0]; omega)]
    · exact decide_eq_false (hf j e hj)⟩
  have hu := hW.un s hs (by omega)
  unfold allocSmall
  rw [e1, e2]
  refine ⟨{ H with cls := setf H.cls s c }.place s c, ?_⟩
  show some (64 * s + lz (H.used s) * c, _) = _
  rw [hu, lz_zero, Nat.zero_mul, Nat.add_zero]
theorem alloc_out (hW : H.Wf) {c : Nat} (hno : ∀ t, t < H.n → H.hasRoom c t = false) (hf : ∀ t, 1 ≤ t → t < H.n → H.cls t ≠ 0) : H.allocSmall c = none := by
  have e1 : first (H.hasRoom c) H.n = none := first_none.2 hno
  have e2 : first H.isFree H.n = none := first_none.2 fun j hj => by
    unfold isFree
    rcases Nat.eq_zero_or_pos j with e | e
    · subst e; rw [decide_eq_false (by rw [hW.c0]; omega)]
    · exact decide_eq_false (hf j e hj)
  unfold allocSmall
  rw [e1, e2]
theorem run_hit {s m : Nat} (hs : s < H.n) (hc : cons H.cls (s + 1) = m) (hprev : ∀ t, t < s → cons H.cls (t + 1) ≠ m) : ∃ H', H.allocRun m = some (64 * (s + 1 - m), H') := by
  have e : first (fun s => decide (cons H.cls (s + 1) = m)) H.n = some s := first_some.2 ⟨hs, decide_eq_true hc, fun j hj => decide_eq_false (hprev j hj)⟩
  unfold allocRun
  rw [e]
  exact ⟨_, rfl⟩
theorem run_out {m : Nat} (hno : ∀ t, t < H.n → cons H.cls (t + 1) ≠ m) : H.allocRun m = none := by
  have e : first (fun s => decide (cons H.cls (s + 1) = m)) H.n = none := first_none.2 fun j hj => decide_eq_false (hno j hj)
  unfold allocRun
  rw [e]

theorem Adds.mem (h : Adds H H' a r) (hW : H.Wf) (b : Nat) : b ∈ H'.blocks ↔ b = a ∨ b ∈ H.blocks := by
  rw [h.wf.mem_blocks, hW.mem_blocks]
  by_cases e : b = a
  · subst e; rw [h.is]; exact ⟨fun _ => .inl rfl, fun _ => h.pos⟩
  · rw [h.other b e]; exact ⟨.inr, fun h => h.resolve_left e⟩
theorem Takes.mem (h : Takes H H' a) (hW : H.Wf) (b : Nat) : b ∈ H'.blocks ↔ b ≠ a ∧ b ∈ H.blocks := by
  rw [h.wf.mem_blocks, hW.mem_blocks]
  by_cases e : b = a
  · subst e; rw [h.is]; exact ⟨fun h => absurd rfl h, fun h => absurd rfl h.1⟩
  · rw [h.other b e]; exact ⟨fun h => ⟨e, h⟩, fun h => h.2⟩
/-- The list behind a new block: what lies below it, it, what lies above it. -/
theorem Adds.split (h : Adds H H' a r) (hW : H.Wf) {j : Nat} (_hj : j ≤ H.blocks.length) (h1 : ∀ x ∈ H.blocks.take j, x < a) (h2 : ∀ x ∈ H.blocks.drop j, a < x) : H'.blocks = H.blocks.take j ++ a :: H.blocks.drop j := by
  have hs := H.blocks_sorted
  refine rising_eq H'.blocks_sorted ?_ fun x => ?_
  · rw [List.pairwise_append, List.pairwise_cons]
    refine ⟨hs.sublist (List.take_sublist _ _), ⟨h2, hs.sublist (List.drop_sublist _ _)⟩, fun x hx y hy => ?_⟩
    rw [List.mem_cons] at hy
    have := h1 x hx
    rcases hy with e | hy
    · omega
    · have := h2 y hy; omega
  · rw [h.mem hW, List.mem_append, List.mem_cons]
    have : x ∈ H.blocks ↔ x ∈ H.blocks.take j ∨ x ∈ H.blocks.drop j := by rw [← List.mem_append, List.take_append_drop]
    rw [this]
    constructor
    · rintro (e | e | e)
      · exact .inr (.inl e)
      · exact .inl e
      · exact .inr (.inr e)
    · rintro (e | e | e)
      · exact .inr (.inl e)
      · exact .inl e
      · exact .inr (.inr e)
theorem Takes.split (h : Takes H H' a) (hW : H.Wf) {i : Nat} (hi : i < H.blocks.length) (ha : H.blocks[i]? = some a) : H'.blocks = H.blocks.take i ++ H.blocks.drop (i + 1) := by
  have hs := H.blocks_sorted
  have hn := H.blocks_nodup
  have ea : H.blocks = H.blocks.take i ++ a :: H.blocks.drop (i + 1) := by
    have e1 := (List.take_append_drop i H.blocks).symm
    rw [List.drop_eq_getElem_cons hi] at e1
    rw [List.getElem?_eq_getElem hi] at ha
    simp only [Option.some.injEq] at ha
    rw [ha] at e1
    exact e1
  refine rising_eq H'.blocks_sorted ?_ fun x => ?_
  · rw [ea] at hs
    rw [List.pairwise_append, List.pairwise_cons] at hs
    rw [List.pairwise_append]
    exact ⟨hs.1, hs.2.1.2, fun x hx y hy => hs.2.2 x hx y (List.mem_cons_of_mem _ hy)⟩
  · rw [h.mem hW]
    have hx : x ∈ H.blocks ↔ x ∈ H.blocks.take i ∨ x = a ∨ x ∈ H.blocks.drop (i + 1) := by
      conv => lhs; rw [ea]
      rw [List.mem_append, List.mem_cons]
    rw [hx, List.mem_append]
    rw [ea, List.nodup_append] at hn
    obtain ⟨-, hn2, hn3⟩ := hn
    rw [List.nodup_cons] at hn2
    constructor
    · rintro ⟨hne, e | e | e⟩
      · exact .inl e
      · exact absurd e hne
      · exact .inr e
    · rintro (e | e)
      · exact ⟨fun e' => hn3 x e a (List.mem_cons_self ..) e', .inl e⟩
      · exact ⟨fun e' => hn2.1 (e' ▸ e), .inr (.inr e)⟩
end HS
end Go.Proofs.Ytnflgjhgegggcaa
