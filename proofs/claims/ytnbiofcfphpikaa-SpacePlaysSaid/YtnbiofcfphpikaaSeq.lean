/-
  Blocks of one class, made one behind the other in an empty heap; a heap without blocks.
-/
import Derived.Test.YtnbiofcfphpikaaHeapLaw
namespace Go.Proofs.Ytnbiofcfphpikaa
namespace HS

theorem pow_or (r : Nat) : (2 ^ r - 1) ||| 2 ^ r = 2 ^ (r + 1) - 1 := by
  apply Nat.eq_of_testBit_eq
  intro i
  rw [testBit_or_pow, Nat.testBit_two_pow_sub_one, Nat.testBit_two_pow_sub_one]
  by_cases h1 : i < r
  · have : i < r + 1 := by omega
    simp [h1, this]
  · by_cases h2 : i = r
    · subst h2; simp
    · have : ¬ i < r + 1 := by omega
      simp [h1, h2, this]
theorem lz_pow {r : Nat} (h : r < 64) : lz (2 ^ r - 1) = r := by
  refine lz_eq h ?_ ?_
  · rw [Nat.testBit_two_pow_sub_one]; simp
  · intro j hj
    rw [Nat.testBit_two_pow_sub_one]; simp [hj]

/-- How many places of span s are taken when k blocks of m to a span were made. -/
def cnt (m k s : Nat) : Nat := min m (k - (s - 1) * m)

/-- After k blocks of class c. -/
structure SeqH (H : HS) (n c k : Nat) : Prop where
  wf : H.Wf
  hn : H.n = n
  cls : ∀ s, 1 ≤ s → s < n → H.cls s = if cnt (64 / c) k s = 0 then 0 else (c : Int)
  used : ∀ s, 1 ≤ s → s < n → H.used s = 2 ^ cnt (64 / c) k s - 1

def seqAt (c k : Nat) : Nat := 64 * (1 + k / (64 / c)) + k % (64 / c) * c

theorem cnt_here {c k : Nat} (hc : Cl (c : Int)) : cnt (64 / c) k (1 + k / (64 / c)) = k % (64 / c) := by
  have hp := cl_pos hc
  unfold cnt
  rw [Nat.add_sub_cancel_left]
  have h1 := Nat.div_add_mod k (64 / c)
  have h2 := Nat.mod_lt k (show 0 < 64 / c by omega)
  rw [Nat.mul_comm] at h1
  omega
theorem cnt_step {c k s : Nat} (hc : Cl (c : Int)) (hs : 1 ≤ s) : cnt (64 / c) (k + 1) s = if s = 1 + k / (64 / c) then cnt (64 / c) k s + 1 else cnt (64 / c) k s := by
  unfold cnt
  rcases cl_cases hc with e | e | e | e | e | e <;> subst e <;> simp only [Nat.reduceDiv] <;> split <;> omega
theorem cnt_full {c k s : Nat} (hc : Cl (c : Int)) (hs : 1 ≤ s) (h : s < 1 + k / (64 / c)) : cnt (64 / c) k s = 64 / c := by
  unfold cnt
  rcases cl_cases hc with e | e | e | e | e | e <;> subst e <;> simp only [Nat.reduceDiv] at * <;> omega
theorem cnt_none {c k s : Nat} (hc : Cl (c : Int)) (h : 1 + k / (64 / c) < s) : cnt (64 / c) k s = 0 := by
  unfold cnt
  rcases cl_cases hc with e | e | e | e | e | e <;> subst e <;> simp only [Nat.reduceDiv] at * <;> omega

theorem full_pow (c : Nat) : full c = 2 ^ (64 / c) - 1 := rfl
theorem pow_inj {a b : Nat} (h : 2 ^ a - 1 = 2 ^ b - 1) : a = b := by
  have h1 := Nat.two_pow_pos a
  have h2 := Nat.two_pow_pos b
  rcases Nat.lt_trichotomy a b with h3 | h3 | h3
  · have := Nat.pow_lt_pow_right (a := 2) (by omega) h3; omega
  · exact h3
  · have := Nat.pow_lt_pow_right (a := 2) (by omega) h3; omega

/-- One block more. -/
theorem SeqH.step {H : HS} {n c k x : Nat} (hs : SeqH H n c k) (hc : Cl (c : Int)) (hx1 : 1 ≤ x) (hx : x ≤ 64) (hcx : classOf x = c) (hk : 1 + k / (64 / c) < n) :
    ∃ H', H.alloc x = some (seqAt c k, H') ∧ SeqH H' n c (k + 1) := by
  have hp := cl_pos hc
  have hm := Nat.mod_lt k (show 0 < 64 / c by omega)
  have hsn := hs.hn
  have hcls := hs.cls (1 + k / (64 / c)) (Nat.le_add_right 1 _) hk
  have huse := hs.used (1 + k / (64 / c)) (Nat.le_add_right 1 _) hk
  rw [cnt_here hc] at hcls huse
  have ha : H.alloc x = H.allocSmall c := by
    unfold alloc
    rw [if_neg (by omega), if_neg (by omega), Int.toNat_natCast, hcx]
  rw [ha]
  have hnot : ∀ s, s < n → s ≠ 1 + k / (64 / c) → H.hasRoom c s = false := by
    intro s h1 h2
    unfold hasRoom
    rcases Nat.eq_zero_or_pos s with e | e
    · subst e; rw [hs.wf.c0]
      have : ¬ ((-2 : Int) = (c : Int)) := by omega
      simp [this]
    · have g1 := hs.cls s e h1
      have g2 := hs.used s e h1
      rcases Nat.lt_or_gt_of_ne h2 with h | h
      · rw [cnt_full hc e h] at g2
        simp [g2, full]
      · rw [cnt_none hc h, if_pos rfl] at g1
        have : ¬ ((0 : Int) = (c : Int)) := by omega
        simp [g1, this]
  have hfin : ∀ H' : HS, H'.Wf → H'.n = H.n → H'.cls (1 + k / (64 / c)) = (c : Int) → H'.used (1 + k / (64 / c)) = 2 ^ (k % (64 / c) + 1) - 1 → (∀ s, s ≠ 1 + k / (64 / c) → H'.cls s = H.cls s ∧ H'.used s = H.used s) → SeqH H' n c (k + 1) := by
    intro H' hw hn h1 h2 h3
    refine ⟨hw, hn.trans hsn, ?_, ?_⟩
    · intro s g1 g2
      rw [cnt_step hc g1]
      by_cases e : s = 1 + k / (64 / c)
      · rw [if_pos e, if_neg (by omega), e]; exact h1
      · rw [if_neg e, (h3 s e).1]; exact hs.cls s g1 g2
    · intro s g1 g2
      rw [cnt_step hc g1]
      by_cases e : s = 1 + k / (64 / c)
      · rw [if_pos e, e, cnt_here hc]; exact h2
      · rw [if_neg e, (h3 s e).2]; exact hs.used s g1 g2
  unfold allocSmall
  by_cases h0 : k % (64 / c) = 0
  · -- a new span
    rw [if_pos h0] at hcls
    have hnone : first (H.hasRoom c) H.n = none := by
      rw [first_none, hsn]
      intro s h
      by_cases e : s = 1 + k / (64 / c)
      · rw [e]; unfold hasRoom; rw [hcls]
        have : ¬ ((0 : Int) = (c : Int)) := by omega
        simp [this]
      · exact hnot s h e
    have hfree : first H.isFree H.n = some (1 + k / (64 / c)) := by
      rw [first_some, hsn]
      refine ⟨hk, by simp [isFree, hcls], ?_⟩
      intro s h
      unfold isFree
      rcases Nat.eq_zero_or_pos s with e | e
      · subst e; rw [hs.wf.c0]; simp
      · have g1 := hs.cls s e (by omega)
        rw [cnt_full hc e h, if_neg (by omega)] at g1
        have : ¬ c = 0 := by omega
        simp [g1, this]
    rw [hnone, hfree]
    have hfa := hs.wf.fresh_adds (f := 1 + k / (64 / c)) (c := c) (by omega) hcls hc
    rw [h0] at huse
    have hu0 : H.used (1 + k / (64 / c)) = 0 := huse
    refine ⟨_, by show some (H.placeAt (1 + k / (64 / c)) c, _) = _; rw [hfa.2]; unfold seqAt; rw [h0, Nat.zero_mul, Nat.add_zero], hfin _ hfa.1.wf rfl (setf_same _ _ _) ?_ (fun s h => ⟨setf_ne _ _ h, setf_ne _ _ h⟩)⟩
    show setf H.used _ (H.used (1 + k / (64 / c)) ||| 2 ^ lz (H.used (1 + k / (64 / c)))) _ = _
    rw [setf_same, hu0, lz_zero, h0]; rfl
  · rw [if_neg h0] at hcls
    have hyes : first (H.hasRoom c) H.n = some (1 + k / (64 / c)) := by
      rw [first_some, hsn]
      refine ⟨hk, ?_, fun s h => hnot s (by omega) (by omega)⟩
      unfold hasRoom
      rw [hcls, huse]
      have : ¬ (2 ^ (k % (64 / c)) - 1 = full c) := by
        intro e
        have := pow_inj e
        omega
      simp [this]
    rw [hyes]
    have hpa := hs.wf.place_adds (s := 1 + k / (64 / c)) (c := c) (by omega) hcls hc (by
      rw [huse]; intro e; have := pow_inj e; omega)
    refine ⟨_, by show some (H.placeAt (1 + k / (64 / c)) c, _) = _; unfold placeAt seqAt; rw [huse, lz_pow (by omega)], hfin _ hpa.wf rfl hcls ?_ (fun s h => ⟨rfl, setf_ne _ _ h⟩)⟩
    show setf H.used _ (H.used (1 + k / (64 / c)) ||| 2 ^ lz (H.used (1 + k / (64 / c)))) _ = _
    rw [setf_same, huse, lz_pow (by omega), pow_or]

theorem new_seq {x c : Nat} (_h1 : 128 ≤ x) (hw : (HS.new x).Wf) : SeqH (HS.new x) (x / 64) c 0 := by
  refine ⟨hw, rfl, ?_, ?_⟩
  · intro s h _
    unfold cnt
    rw [if_pos (by simp)]
    show (if s = 0 then (-2 : Int) else 0) = 0
    rw [if_neg (by omega)]
  · intro s h _
    unfold cnt
    rw [show min (64 / c) (0 - (s - 1) * (64 / c)) = 0 by simp]; rfl

theorem seqAt_lt {c j k : Nat} (hc : Cl (c : Int)) (h : j < k) : seqAt c j < seqAt c k := by
  unfold seqAt
  rcases cl_cases hc with e | e | e | e | e | e <;> subst e <;> simp only [Nat.reduceDiv] <;> omega
theorem seqAt_zero {c : Nat} : seqAt c 0 = 64 := by unfold seqAt; simp

/-- A heap without blocks is free. -/
theorem Wf.empty {H : HS} (hW : H.Wf) (h : ∀ a, H.room a = 0) : ∀ s, 1 ≤ s → s < H.n → H.cls s = 0 := by
  intro s h1 hs
  have key : ∀ t, t < H.n → H.cls t ≠ -1 := by
    intro t ht hc
    have := h (64 * t)
    rw [room_long ht hc] at this
    have := hW.lg t ht hc
    omega
  rcases hW.kind s hs with e | e | e | e
  · exact e
  · exact absurd e (key s hs)
  · obtain ⟨f, _, _, hf, _⟩ := hW.mo s hs h1 e
    exact absurd hf (key f (by omega))
  · exfalso
    obtain ⟨c, hc, hcl⟩ := cl_nat e
    have hp := cl_pos hcl
    have hu := hW.uc s hs (by omega)
    rw [hc, Int.toNat_natCast] at hu
    apply hu.1
    apply Nat.eq_of_testBit_eq
    intro i
    rw [Nat.zero_testBit]
    by_cases hi : i < 64 / c
    · have := h (64 * s + i * c)
      rw [room_class hs hc hcl hi] at this
      cases hb : (H.used s).testBit i with
      | false => rfl
      | true => rw [hb, if_pos rfl] at this; omega
    · exact Nat.testBit_lt_two_pow (Nat.lt_of_lt_of_le hu.2 (Nat.pow_le_pow_right (by omega) (by omega)))

theorem cf_all {cls : Nat → Int} {n : Nat} (h0 : cls 0 ≠ 0) (h : ∀ s, 1 ≤ s → s < n → cls s = 0) : ∀ k, k ≤ n → cf cls k = k - 1 := by
  intro k
  induction k with
  | zero => intro _; rfl
  | succ k ih =>
    intro hk
    by_cases e : k = 0
    · subst e; simp [cf, h0]
    · rw [cf_yes (h k (by omega) (by omega)), ih (by omega)]; omega
theorem Wf.spans_empty {H : HS} (hW : H.Wf) (h : ∀ a, H.room a = 0) : H.spans = H.n - 1 :=
  cf_all (by rw [hW.c0]; omega) (hW.empty h) H.n (Nat.le_refl _)

theorem mem_spanBlocks {H : HS} {s a : Nat} (h : a ∈ H.spanBlocks s) : (H.cls s = -1 ∧ a = 64 * s) ∨ (0 < H.cls s ∧ ∃ k, k < 64 / (H.cls s).toNat ∧ (H.used s).testBit k = true ∧ a = 64 * s + k * (H.cls s).toNat) := by
  unfold spanBlocks at h
  split at h
  · rename_i hc; left; simp at h; exact ⟨hc, h⟩
  · split at h
    · rename_i hc
      right
      simp only [List.mem_map, List.mem_filter, List.mem_range] at h
      obtain ⟨k, ⟨hk, hb⟩, rfl⟩ := h
      exact ⟨hc, k, hk, hb, rfl⟩
    · cases h
theorem mem_blocksTo {H : HS} {a : Nat} : ∀ k, a ∈ H.blocksTo k ↔ ∃ s, s < k ∧ a ∈ H.spanBlocks s
  | 0 => by simp [blocksTo]
  | k + 1 => by
    simp only [blocksTo, List.mem_append, mem_blocksTo k]
    constructor
    · rintro (⟨s, h1, h2⟩ | h)
      · exact ⟨s, by omega, h2⟩
      · exact ⟨k, by omega, h⟩
    · rintro ⟨s, h1, h2⟩
      by_cases e : s = k
      · subst e; exact .inr h2
      · exact .inl ⟨s, by omega, h2⟩
/-- Blocks are just the places with room. -/
theorem Wf.mem_blocks {H : HS} (hW : H.Wf) (a : Nat) : a ∈ H.blocks ↔ H.room a ≠ 0 := by
  unfold blocks
  rw [mem_blocksTo]
  constructor
  · rintro ⟨s, hs, h⟩
    rcases mem_spanBlocks h with ⟨hc, rfl⟩ | ⟨hc, k, hk, hb, rfl⟩
    · rw [room_long hs hc]; have := hW.lg s hs hc; omega
    · have hcl : Cl (H.cls s) := by rcases hW.kind s hs with e | e | e | e <;> first | omega | exact e
      obtain ⟨c, hcc, hcl'⟩ := cl_nat hcl
      rw [hcc, Int.toNat_natCast] at hk ⊢
      rw [room_class hs hcc hcl' hk, if_pos hb]
      have := cl_pos hcl'; omega
  · intro h
    rcases hW.cases h with ⟨s, hs, h1, hc, ea, hr⟩ | ⟨s, k, c, hs, h1, hc, hcl, hk, hb, ea, hr⟩
    · exact ⟨s, hs, by unfold spanBlocks; rw [if_pos hc]; simp [ea]⟩
    · refine ⟨s, hs, ?_⟩
      have hp := cl_pos hcl
      unfold spanBlocks
      rw [if_neg (by omega), if_pos (by omega), hc, Int.toNat_natCast]
      simp only [List.mem_map, List.mem_filter, List.mem_range]
      exact ⟨k, ⟨hk, hb⟩, ea.symm⟩
theorem Wf.blocks_empty {H : HS} (hW : H.Wf) (h : ∀ a, H.room a = 0) : H.blocks = [] := by
  cases hb : H.blocks with
  | nil => rfl
  | cons a l =>
    have : a ∈ H.blocks := by rw [hb]; exact List.mem_cons_self
    exact absurd (h a) ((hW.mem_blocks a).1 this)

/-- Where there is no room for a small block there is no free span, and each span of the class is full. -/
theorem alloc_none {H : HS} {x : Nat} (h1 : 1 ≤ x) (hx : x ≤ 64) (h : H.alloc x = none) : ∀ s, s < H.n → H.cls s ≠ 0 ∧ (H.cls s = (classOf x : Nat) → H.used s = full (classOf x)) := by
  unfold alloc at h
  rw [if_neg (by omega), if_neg (by omega), Int.toNat_natCast] at h
  unfold allocSmall at h
  split at h
  · cases h
  · rename_i hn
    split at h
    · cases h
    · rename_i hf
      intro s hs
      refine ⟨?_, ?_⟩
      · have := first_none.1 hf s hs
        simpa [isFree] using this
      · intro hc
        have := first_none.1 hn s hs
        unfold hasRoom at this
        simpa [hc] using this
end HS
end Go.Proofs.Ytnbiofcfphpikaa
