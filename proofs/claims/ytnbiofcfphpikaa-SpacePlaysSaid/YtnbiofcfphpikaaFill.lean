/-
  Filling a heap with blocks of one size, and emptying it again.
-/
import Derived.Test.YtnbiofcfphpikaaSeq2
namespace Go.Proofs.Ytnbiofcfphpikaa
namespace HS

/-- The blocks are just A 0, .., A (k - 1), and the rest is as the next Alloc of x needs it. -/
structure Fill (x N most : Nat) (A : Nat → Nat) (P : Nat → HS → Prop) : Prop where
  start : ∀ H, P 0 H → True
  step : ∀ k H, P k H → k < most → ∃ H', H.alloc x = some (A k, H') ∧ P (k + 1) H'
  full : ∀ H, P most H → H.alloc x = none
  blocks : ∀ k H, P k H → k ≤ most → H.Wf ∧ H.n = N ∧ ∀ a, H.room a ≠ 0 ↔ ∃ j, j < k ∧ a = A j
  inj : ∀ i j, A i = A j → i = j

/-- Small blocks. -/
theorem fill_small {x N c : Nat} (h1 : 1 ≤ x) (hx : x ≤ 64) (hcx : classOf x = c) : Fill x N ((N - 1) * (64 / c)) (seqAt c) (fun k H => SeqH H N c k) := by
  have hc : Cl (c : Int) := by rw [← hcx]; exact (cl_classOf x hx).1
  have hp := cl_pos hc
  refine ⟨fun _ _ => trivial, ?_, ?_, ?_, fun i j h => seqAt_inj hc h⟩
  · intro k H hs hk
    exact hs.step hc h1 hx hcx (span_lt (by omega) (n := 64 / c * (N - 1)) (Nat.le_refl _) (by rw [Nat.mul_comm]; exact hk))
  · intro H hs
    unfold alloc
    rw [if_neg (by omega), if_neg (by omega), Int.toNat_natCast, hcx]
    have hall : ∀ s, 1 ≤ s → s < N → cnt (64 / c) ((N - 1) * (64 / c)) s = 64 / c := by
      intro s g1 g2
      unfold cnt
      have : (s - 1) * (64 / c) + 64 / c ≤ (N - 1) * (64 / c) := by
        rw [← Nat.succ_mul]
        exact Nat.mul_le_mul_right _ (by omega)
      generalize (s - 1) * (64 / c) = q at *
      generalize (N - 1) * (64 / c) = r at *
      omega
    have e1 : first (H.hasRoom c) H.n = none := by
      rw [first_none, hs.hn]
      intro s g
      unfold hasRoom
      rcases Nat.eq_zero_or_pos s with e | e
      · subst e; rw [hs.wf.c0]
        have : ¬ ((-2 : Int) = (c : Int)) := by omega
        simp [this]
      · have := hs.used s e g
        rw [hall s e g] at this
        simp [this, full]
    have e2 : first H.isFree H.n = none := by
      rw [first_none, hs.hn]
      intro s g
      unfold isFree
      rcases Nat.eq_zero_or_pos s with e | e
      · subst e; rw [hs.wf.c0]; simp
      · have := hs.cls s e g
        rw [hall s e g, if_neg (by omega)] at this
        have hne : ¬ c = 0 := by omega
        simp [this, hne]
    unfold allocSmall
    rw [e1, e2]
  · intro k H hs hk
    have h2 := hs.some2 hc (by rw [Nat.mul_comm]; exact hk)
    refine ⟨hs.wf, hs.hn, fun a => ⟨fun ha => ?_, ?_⟩⟩
    · apply Classical.byContradiction
      intro hno
      exact ha (h2.off a fun j hj e => hno ⟨j, hj, e⟩)
    · rintro ⟨j, hj, rfl⟩
      rw [h2.here j hj]
      simp; omega

/-- Great blocks: q spans each. -/
structure RunH (H : HS) (N q k : Nat) : Prop where
  wf : H.Wf
  hn : H.n = N
  fits : 1 + q * k ≤ N
  free : ∀ s, 1 + q * k ≤ s → s < N → H.cls s = 0
  taken : ∀ s, s < 1 + q * k → H.cls s ≠ 0
  blocks : ∀ a, H.room a ≠ 0 ↔ ∃ j, j < k ∧ a = 64 * (1 + q * j)

theorem RunH.cons {H : HS} {N q k : Nat} (h : RunH H N q k) : (∀ i, 1 + q * k + i ≤ N → cons H.cls (1 + q * k + i) = i) ∧ ∀ s, s < 1 + q * k → cons H.cls (s + 1) = 0 := by
  refine ⟨?_, ?_⟩
  · intro i
    induction i with
    | zero =>
      intro _
      have := h.taken (q * k) (by omega)
      rw [Nat.add_zero, Nat.add_comm]
      simp [HS.cons, this]
    | succ i ih =>
      intro hi
      have h0 := h.free (1 + q * k + i) (by omega) (by omega)
      rw [← Nat.add_assoc]
      simp only [HS.cons]
      rw [if_pos h0, ih (by omega)]
  · intro s hs
    have := h.taken s hs
    simp [HS.cons, this]

theorem fill_great {x N q : Nat} (hx : 64 < x) (hx2 : x ≤ 16448) (hq : (x + 63) / 64 = q) (hN : 1 ≤ N) : Fill x N ((N - 1) / q) (fun j => 64 * (1 + q * j)) (fun k H => RunH H N q k) := by
  have hq2 : 2 ≤ q := by omega
  have halloc : ∀ H : HS, H.alloc x = H.allocRun q := by
    intro H
    unfold alloc
    rw [if_neg (by omega), if_pos (by omega), Int.toNat_natCast, hq]
  refine ⟨fun _ _ => trivial, ?_, ?_, ?_, ?_⟩
  · intro k H h hk
    have hfit : q * (k + 1) ≤ N - 1 := by
      rw [Nat.mul_comm]
      exact (Nat.le_div_iff_mul_le (by omega)).1 hk
    rw [Nat.mul_add, Nat.mul_one] at hfit
    have hc := h.cons
    have hf : first (fun s => decide (HS.cons H.cls (s + 1) = q)) H.n = some (q * k + q) := by
      rw [first_some, h.hn]
      refine ⟨by omega, ?_, ?_⟩
      · have := hc.1 q (by omega)
        rw [show q * k + q + 1 = 1 + q * k + q by omega, this]; simp
      · intro j hj
        by_cases e : j < 1 + q * k
        · rw [hc.2 j e]; simp; omega
        · have := hc.1 (j - q * k) (by omega)
          rw [show 1 + q * k + (j - q * k) = j + 1 by omega] at this
          rw [this]; simp; omega
    rw [halloc]
    unfold allocRun
    rw [hf]
    have hs1 : q * k + q + 1 - q = 1 + q * k := by omega
    have hadds := h.wf.run_adds (f := 1 + q * k) (m := q) hq2 (by rw [h.hn]; omega) (fun i hi hi' => h.free i hi (by omega))
    refine ⟨_, by show some (64 * (q * k + q + 1 - q), _) = _; rw [hs1], ?_⟩
    refine ⟨hadds.wf, hadds.n.trans h.hn, ?_, ?_, ?_, ?_⟩
    · rw [Nat.mul_add, Nat.mul_one]; omega
    · intro s g1 g2
      rw [Nat.mul_add, Nat.mul_one] at g1
      show setf (setr H.cls (1 + q * k) q (-2)) (1 + q * k) (-1) s = 0
      rw [setf_ne _ _ (by omega), setr_out _ _ (by omega)]
      exact h.free s (by omega) g2
    · intro s g1
      rw [Nat.mul_add, Nat.mul_one] at g1
      show setf (setr H.cls (1 + q * k) q (-2)) (1 + q * k) (-1) s ≠ 0
      by_cases e : s = 1 + q * k
      · rw [e, setf_same]; omega
      · rw [setf_ne _ _ e]
        by_cases e2 : s < 1 + q * k
        · rw [setr_out _ _ (by omega)]; exact h.taken s e2
        · rw [setr_in _ _ (by omega) (by omega)]; omega
    · intro a
      by_cases e : a = 64 * (1 + q * k)
      · subst e
        rw [hadds.is]
        exact ⟨fun _ => ⟨k, by omega, rfl⟩, fun _ => hadds.pos⟩
      · rw [hadds.other a e, h.blocks a]
        constructor
        · rintro ⟨j, hj, rfl⟩; exact ⟨j, by omega, rfl⟩
        · rintro ⟨j, hj, rfl⟩
          have : j ≠ k := by intro e2; subst e2; exact e rfl
          exact ⟨j, by omega, rfl⟩
  · intro H h
    rw [halloc]
    unfold allocRun
    have hc := h.cons
    have hf : first (fun s => decide (HS.cons H.cls (s + 1) = q)) H.n = none := by
      rw [first_none, h.hn]
      intro j hj
      by_cases e : j < 1 + q * ((N - 1) / q)
      · rw [hc.2 j e]; simp; omega
      · have := hc.1 (j - q * ((N - 1) / q)) (by omega)
        rw [show 1 + q * ((N - 1) / q) + (j - q * ((N - 1) / q)) = j + 1 by omega] at this
        rw [this]
        have h1 := Nat.div_add_mod (N - 1) q
        have h2 := Nat.mod_lt (N - 1) (show 0 < q by omega)
        generalize q * ((N - 1) / q) = r at *
        simp; omega
    rw [hf]
  · intro k H h _
    exact ⟨h.wf, h.hn, h.blocks⟩
  · intro i j h
    have h2 : q * i = q * j := by omega
    exact Nat.eq_of_mul_eq_mul_left (by omega) h2

theorem new_run {x q : Nat} (h1 : 128 ≤ x) (hw : (HS.new x).Wf) : RunH (HS.new x) (x / 64) q 0 := by
  refine ⟨hw, rfl, by omega, ?_, ?_, ?_⟩
  · intro s g _
    show (if s = 0 then (-2 : Int) else 0) = 0
    rw [if_neg (by omega)]
  · intro s g
    show (if s = 0 then (-2 : Int) else 0) ≠ 0
    rw [if_pos (by omega)]; omega
  · intro a
    constructor
    · intro h
      exfalso
      rcases hw.cases h with ⟨s, hs, h1, hc, ea, hr⟩ | ⟨s, k, c, hs, h1, hc, hcl, hk, hb, ea, hr⟩
      · change (if s = 0 then (-2 : Int) else 0) = -1 at hc
        rw [if_neg (by omega)] at hc; omega
      · change (if s = 0 then (-2 : Int) else 0) = (c : Int) at hc
        have := cl_pos hcl
        rw [if_neg (by omega)] at hc; omega
    · rintro ⟨j, hj, _⟩; omega

/-- What is left when the first k of B 0, .., B (n - 1) are freed. -/
structure Rest (H : HS) (N n k : Nat) (B : Nat → Nat) : Prop where
  wf : H.Wf
  hn : H.n = N
  rooms : ∀ a, H.room a ≠ 0 ↔ ∃ i, k ≤ i ∧ i < n ∧ a = B i

theorem Rest.step {H : HS} {N n k : Nat} {B : Nat → Nat} (h : Rest H N n k B) (hk : k < n) (hB : ∀ i j, i < n → j < n → B i = B j → i = j) : H.room (B k) ≠ 0 ∧ Rest (H.freeAt (B k)) N n (k + 1) B := by
  have hr : H.room (B k) ≠ 0 := (h.rooms _).2 ⟨k, Nat.le_refl _, hk, rfl⟩
  have ht := h.wf.free_takes hr
  refine ⟨hr, ht.wf, ht.n.trans h.hn, fun a => ?_⟩
  by_cases e : a = B k
  · subst e
    rw [ht.is]
    constructor
    · intro h; exact absurd rfl h
    · rintro ⟨i, h1, h2, h3⟩
      have := hB k i hk h2 h3; omega
  · rw [ht.other a e, h.rooms a]
    constructor
    · rintro ⟨i, h1, h2, rfl⟩
      have : i ≠ k := by intro e2; subst e2; exact e rfl
      exact ⟨i, by omega, h2, rfl⟩
    · rintro ⟨i, h1, h2, rfl⟩
      exact ⟨i, by omega, h2, rfl⟩
theorem Rest.done {H : HS} {N n : Nat} {B : Nat → Nat} (h : Rest H N n n B) : H.spans = N - 1 ∧ H.blocks = [] := by
  have h0 : ∀ a, H.room a = 0 := by
    intro a
    apply Classical.byContradiction
    intro hr
    obtain ⟨i, h1, h2, _⟩ := (h.rooms a).1 hr
    omega
  exact ⟨by rw [h.wf.spans_empty h0, h.hn], h.wf.blocks_empty h0⟩

def flip (odd : Bool) (n i : Nat) : Nat := if odd = true then n - 1 - i else i
theorem Fill.rest {x N most : Nat} {A : Nat → Nat} {P : Nat → HS → Prop} (hf : Fill x N most A P) {H : HS} (h : P most H) (odd : Bool) : Rest H N most 0 (fun i => A (flip odd most i)) := by
  obtain ⟨h1, h2, h3⟩ := hf.blocks most H h (Nat.le_refl _)
  refine ⟨h1, h2, fun a => ?_⟩
  rw [h3 a]
  constructor
  · rintro ⟨j, hj, rfl⟩
    refine ⟨flip odd most j, by omega, ?_, ?_⟩
    · unfold flip; split <;> omega
    · congr 1; unfold flip; cases odd <;> simp; omega
  · rintro ⟨i, _, hi, rfl⟩
    exact ⟨flip odd most i, by unfold flip; split <;> omega, rfl⟩
theorem Fill.flip_inj {x N most : Nat} {A : Nat → Nat} {P : Nat → HS → Prop} (hf : Fill x N most A P) (odd : Bool) : ∀ i j, i < most → j < most → A (flip odd most i) = A (flip odd most j) → i = j := by
  intro i j hi hj h
  have := hf.inj _ _ h
  unfold flip at this
  split at this <;> omega
end HS
end Go.Proofs.Ytnbiofcfphpikaa
