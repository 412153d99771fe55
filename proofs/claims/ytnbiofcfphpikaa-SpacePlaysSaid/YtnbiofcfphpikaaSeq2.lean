/-
  Some of the blocks of one class are freed again.
-/
import Derived.Test.YtnbiofcfphpikaaSeq
namespace Go.Proofs.Ytnbiofcfphpikaa
namespace HS

theorem seqAt_split (c j : Nat) : seqAt c j = 64 * (1 + j / (64 / c)) + j % (64 / c) * c := rfl
theorem seqAt_inj {c i j : Nat} (hc : Cl (c : Int)) (h : seqAt c i = seqAt c j) : i = j := by
  rcases Nat.lt_trichotomy i j with h1 | h1 | h1
  · have := seqAt_lt hc h1; omega
  · exact h1
  · have := seqAt_lt hc h1; omega

theorem span_lt {m n N j : Nat} (hm : 0 < m) (hn : n ≤ m * (N - 1)) (hj : j < n) : 1 + j / m < N := by
  have h : j / m < N - 1 := by
    rw [Nat.div_lt_iff_lt_mul hm, Nat.mul_comm]
    exact Nat.lt_of_lt_of_le hj hn
  generalize j / m = q at *
  omega

structure Some2 (H : HS) (N c n : Nat) (G : Nat → Bool) : Prop where
  wf : H.Wf
  hn : H.n = N
  fit : n ≤ 64 / c * (N - 1)
  kinds : ∀ s, 1 ≤ s → s < N → H.cls s = 0 ∨ H.cls s = c
  here : ∀ j, j < n → H.room (seqAt c j) = if G j = true then 0 else c
  off : ∀ a, (∀ j, j < n → a ≠ seqAt c j) → H.room a = 0

theorem SeqH.some2 {H : HS} {N c n : Nat} (hs : SeqH H N c n) (hc : Cl (c : Int)) (hn : n ≤ 64 / c * (N - 1)) : Some2 H N c n (fun _ => false) := by
  have hp := cl_pos hc
  have hspan : ∀ j, j < n → 1 + j / (64 / c) < N := by
    intro j hj
    exact span_lt (by omega) hn hj
  have hcnt : ∀ j, j < n → j % (64 / c) < cnt (64 / c) n (1 + j / (64 / c)) := by
    intro j hj
    unfold cnt
    rw [Nat.add_sub_cancel_left]
    have h1 := Nat.div_add_mod j (64 / c)
    have h2 := Nat.mod_lt j (show 0 < 64 / c by omega)
    rw [Nat.mul_comm] at h1
    generalize j / (64 / c) * (64 / c) = q at *
    omega
  refine ⟨hs.wf, hs.hn, hn, ?_, ?_, ?_⟩
  · intro s h1 h2
    rw [hs.cls s h1 h2]
    split
    · exact .inl rfl
    · exact .inr rfl
  · intro j hj
    have h1 := hspan j hj
    have h2 := hcnt j hj
    have hm := Nat.mod_lt j (show 0 < 64 / c by omega)
    have hcl := hs.cls (1 + j / (64 / c)) (Nat.le_add_right 1 _) h1
    rw [if_neg (by omega)] at hcl
    rw [seqAt_split, room_class (by rw [hs.hn]; exact h1) hcl hc hm, hs.used _ (Nat.le_add_right 1 _) h1, Nat.testBit_two_pow_sub_one]
    simp [h2]
  · intro a ha
    apply Classical.byContradiction
    intro h
    rcases hs.wf.cases h with ⟨s, hs', h1, hcs, ea, hr⟩ | ⟨s, k, c', hs', h1, hcs, hcl', hk, hb, ea, hr⟩
    · rw [hs.hn] at hs'
      rw [hs.cls s h1 hs'] at hcs
      split at hcs <;> omega
    · rw [hs.hn] at hs'
      have hcls := hs.cls s h1 hs'
      rw [hcs] at hcls
      have hp' := cl_pos hcl'
      split at hcls
      · omega
      · have : c' = c := by omega
        subst this
        rw [hs.used s h1 hs', Nat.testBit_two_pow_sub_one] at hb
        have hlt := of_decide_eq_true hb
        refine ha ((s - 1) * (64 / c') + k) ?_ ?_
        · unfold cnt at hlt; omega
        · rw [ea, seqAt_split]
          rw [Nat.mul_comm (s - 1), Nat.mul_add_div (by omega), Nat.div_eq_of_lt hk, Nat.mul_add_mod, Nat.mod_eq_of_lt hk]
          rw [show 1 + (s - 1 + 0) = s by omega]

theorem freeAt_cls {H : HS} {a s : Nat} (_hW : H.Wf) (hc : H.cls (a / 64) ≠ -1) : (H.freeAt a).cls s = 0 ∨ (H.freeAt a).cls s = H.cls s := by
  unfold freeAt
  rw [if_neg hc]
  split
  · show setf H.cls (a / 64) 0 s = 0 ∨ _
    by_cases e : s = a / 64
    · left; rw [e, setf_same]
    · right; exact setf_ne _ _ e
  · right; rfl

theorem seqAt_span {c j : Nat} (hc : Cl (c : Int)) : seqAt c j / 64 = 1 + j / (64 / c) := by
  have hp := cl_pos hc
  exact (cl_at hc (Nat.mod_lt j (show 0 < 64 / c by omega))).1

theorem Some2.free {H : HS} {N c n : Nat} {G : Nat → Bool} (h : Some2 H N c n G) (hc : Cl (c : Int)) {j : Nat} (hj : j < n) (hG : G j = false) :
    Some2 (H.freeAt (seqAt c j)) N c n (setf G j true) := by
  have hp := cl_pos hc
  have hr : H.room (seqAt c j) ≠ 0 := by rw [h.here j hj, hG]; simp; omega
  have ht := h.wf.free_takes hr
  have hsp : 1 + j / (64 / c) < N := span_lt (by omega) h.fit hj
  have hnl : H.cls (seqAt c j / 64) ≠ -1 := by
    rw [seqAt_span hc]
    rcases h.kinds _ (Nat.le_add_right 1 _) hsp with e | e <;> omega
  refine ⟨ht.wf, ht.n.trans h.hn, h.fit, ?_, ?_, ?_⟩
  · intro s h1 h2
    rcases freeAt_cls (s := s) h.wf hnl with e | e
    · exact .inl e
    · rw [e]; exact h.kinds s h1 h2
  · intro i hi
    by_cases e : i = j
    · subst e; rw [setf_same, ht.is]; rfl
    · rw [setf_ne _ _ e, ht.other _ (fun e' => e (seqAt_inj hc e')), h.here i hi]
  · intro a ha
    by_cases e : a = seqAt c j
    · rw [e]; exact ht.is
    · rw [ht.other a e]; exact h.off a ha

theorem Some2.all {H : HS} {N c n : Nat} {G : Nat → Bool} (h : Some2 H N c n G) (hG : ∀ j, j < n → G j = true) (a : Nat) : H.room a = 0 := by
  by_cases e : ∃ j, j < n ∧ a = seqAt c j
  · obtain ⟨j, hj, rfl⟩ := e
    rw [h.here j hj, hG j hj]; rfl
  · exact h.off a fun j hj e' => e ⟨j, hj, e'⟩

theorem Some2.fits {H : HS} {N c n x : Nat} {G : Nat → Bool} (h : Some2 H N c n G) (hc : Cl (c : Int)) (h1 : 1 ≤ x) (hx : x ≤ 64) (hcx : classOf x = c) {j : Nat} (hj : j < n) (hG : G j = true) : H.alloc x ≠ none := by
  intro hno
  have hp := cl_pos hc
  have hsp : 1 + j / (64 / c) < N := span_lt (by omega) h.fit hj
  have hm := Nat.mod_lt j (show 0 < 64 / c by omega)
  have ha := alloc_none h1 hx hno (1 + j / (64 / c)) (by rw [h.hn]; exact hsp)
  rw [hcx] at ha
  rcases h.kinds _ (Nat.le_add_right 1 _) hsp with e | e
  · exact ha.1 e
  · have hu := ha.2 e
    have hr := h.here j hj
    rw [hG, seqAt_split, room_class (by rw [h.hn]; exact hsp) e hc hm, hu, full, Nat.testBit_two_pow_sub_one] at hr
    simp [hm] at hr
    omega

/-- An empty heap gives its second span's first place. -/
theorem Wf.empty_alloc {H : HS} (hW : H.Wf) (h : ∀ a, H.room a = 0) {x : Nat} (h1 : 1 ≤ x) (hx : x ≤ 64) : ∃ H', H.alloc x = some (64, H') := by
  have h2 := hW.n2
  have hf := hW.empty h
  have hcl := cl_classOf x hx
  have hp := cl_pos hcl.1
  unfold alloc
  rw [if_neg (by omega), if_neg (by omega), Int.toNat_natCast]
  unfold allocSmall
  have e1 : first (H.hasRoom (classOf x)) H.n = none := by
    rw [first_none]
    intro s hs
    unfold hasRoom
    rcases Nat.eq_zero_or_pos s with e | e
    · subst e; rw [hW.c0]
      have : ¬ ((-2 : Int) = (classOf x : Int)) := by omega
      simp [this]
    · rw [hf s e hs]
      have : ¬ ((0 : Int) = (classOf x : Int)) := by omega
      simp [this]
  have e2 : first H.isFree H.n = some 1 := by
    rw [first_some]
    refine ⟨by omega, by simp [isFree, hf 1 (by omega) (by omega)], ?_⟩
    intro j hj
    obtain rfl : j = 0 := by omega
    simp [isFree, hW.c0]
  rw [e1, e2]
  have := (hW.fresh_adds (f := 1) (c := classOf x) (by omega) (hf 1 (by omega) (by omega)) hcl.1).2
  exact ⟨_, by show some (H.placeAt 1 (classOf x), _) = _; rw [this]⟩
end HS
end Go.Proofs.Ytnbiofcfphpikaa
