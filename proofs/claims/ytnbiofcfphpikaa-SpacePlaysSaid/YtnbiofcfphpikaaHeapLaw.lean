/-
  What the plain heap keeps: its blocks lie apart, Alloc adds one, Free takes one away.
-/
import Derived.Test.YtnbiofcfphpikaaPure
namespace Go.Proofs.Ytnbiofcfphpikaa
namespace HS

theorem cl_cases {c : Nat} (h : Cl (c : Int)) : c = 2 ∨ c = 4 ∨ c = 8 ∨ c = 16 ∨ c = 32 ∨ c = 64 := by unfold Cl at h; omega
theorem cl_nat {i : Int} (h : Cl i) : ∃ c : Nat, i = c ∧ Cl (c : Int) := ⟨i.toNat, by unfold Cl at h; omega, by unfold Cl at *; omega⟩
theorem cl_div {c k : Nat} (h : Cl (c : Int)) (hk : k < 64 / c) : k * c + c ≤ 64 := by
  rcases cl_cases h with e | e | e | e | e | e <;> subst e <;> omega
theorem cl_at {c k s : Nat} (h : Cl (c : Int)) (hk : k < 64 / c) : (64 * s + k * c) / 64 = s ∧ (64 * s + k * c) % c = 0 ∧ (64 * s + k * c) % 64 / c = k := by
  rcases cl_cases h with e | e | e | e | e | e <;> subst e <;> omega
theorem cl_of {c a : Nat} (h : Cl (c : Int)) (ha : a % c = 0) : a % 64 / c < 64 / c ∧ a = 64 * (a / 64) + a % 64 / c * c := by
  rcases cl_cases h with e | e | e | e | e | e <;> subst e <;> omega
theorem cl_ne {c k j : Nat} (h : Cl (c : Int)) (hk : k < j) : k * c + c ≤ j * c := by
  rcases cl_cases h with e | e | e | e | e | e <;> subst e <;> omega
theorem cl_pos {c : Nat} (h : Cl (c : Int)) : 0 < c ∧ c ≤ 64 ∧ 64 / c ≤ 32 ∧ 1 ≤ 64 / c ∧ c % 2 = 0 := by
  rcases cl_cases h with e | e | e | e | e | e <;> subst e <;> omega
theorem cl_classOf (x : Nat) (h : x ≤ 64) : Cl (classOf x : Int) ∧ x ≤ classOf x := by
  unfold classOf Cl
  refine ⟨?_, ?_⟩
  · (repeat' split) <;> omega
  · (repeat' split) <;> omega

theorem lz_spec {u m : Nat} (hu : u < 2 ^ m) (hf : u ≠ 2 ^ m - 1) (hm : m ≤ 64) : lz u < m ∧ u.testBit (lz u) = false ∧ ∀ j, j < lz u → u.testBit j = true := by
  have hex : ∃ k, k < m ∧ u.testBit k = false := by
    apply Classical.byContradiction
    intro hno
    apply hf
    apply Nat.eq_of_testBit_eq
    intro i
    rw [Nat.testBit_two_pow_sub_one]
    by_cases hi : i < m
    · simp only [hi, decide_true]
      cases hb : u.testBit i with
      | true => rfl
      | false => exact absurd ⟨i, hi, hb⟩ hno
    · simp only [hi, decide_false]
      exact Nat.testBit_lt_two_pow (Nat.lt_of_lt_of_le hu (Nat.pow_le_pow_right (by omega) (by omega)))
  obtain ⟨k, hk, hb⟩ := hex
  cases hfst : first (fun k => !u.testBit k) 64 with
  | none =>
    have := first_none.1 hfst k (by omega)
    simp [hb] at this
  | some q =>
    have hq := first_some.1 hfst
    have hlz : lz u = q := by unfold lz; rw [hfst]; rfl
    rw [hlz]
    refine ⟨?_, by simpa using hq.2.1, fun j hj => by simpa using hq.2.2 j hj⟩
    rcases Nat.lt_or_ge k q with h | h
    · have := hq.2.2 k h; simp [hb] at this
    · omega
theorem lz_eq {u k : Nat} (hk : k < 64) (hb : u.testBit k = false) (hl : ∀ j, j < k → u.testBit j = true) : lz u = k := by
  unfold lz
  rw [first_some.2 ⟨hk, by simp [hb], fun j hj => by simp [hl j hj]⟩]; rfl
theorem lz_zero : lz 0 = 0 := lz_eq (by omega) (by simp) (fun j hj => by omega)
theorem lz_lt (u : Nat) : lz u < 64 := by
  unfold lz
  cases h : first (fun k => !u.testBit k) 64 with
  | none => simp
  | some q => exact (first_some.1 h).1

variable {H : HS}

theorem room_class {s k c : Nat} (hs : s < H.n) (hc : H.cls s = (c : Int)) (h : Cl (c : Int)) (hk : k < 64 / c) :
    H.room (64 * s + k * c) = if (H.used s).testBit k = true then c else 0 := by
  have hd := cl_div h hk
  have ha := cl_at (s := s) h hk
  have hp := cl_pos h
  unfold room
  rw [if_neg (by omega), ha.1, hc]
  rw [if_neg (by omega), Int.toNat_natCast, ha.2.1, ha.2.2]
  by_cases hb : (H.used s).testBit k = true
  · rw [if_pos ⟨by omega, rfl, hb⟩, if_pos hb]
  · rw [if_neg (fun hh => hb hh.2.2), if_neg hb]
theorem room_long {s : Nat} (hs : s < H.n) (hc : H.cls s = -1) : H.room (64 * s) = 64 * H.runs s := by
  unfold room
  rw [if_neg (by omega), show 64 * s / 64 = s from by omega, if_pos ⟨hc, by omega⟩]

theorem Wf.cases (hW : H.Wf) {a : Nat} (h : H.room a ≠ 0) :
    (∃ s, s < H.n ∧ 1 ≤ s ∧ H.cls s = -1 ∧ a = 64 * s ∧ H.room a = 64 * H.runs s) ∨
    (∃ s k c : Nat, s < H.n ∧ 1 ≤ s ∧ H.cls s = (c : Int) ∧ Cl (c : Int) ∧ k < 64 / c ∧ (H.used s).testBit k = true ∧ a = 64 * s + k * c ∧ H.room a = c) := by
  have h' := h
  unfold room at h
  split at h
  · exact absurd rfl h
  · rename_i hlt
    have hsn : a / 64 < H.n := by omega
    have hs1 : (0 < H.cls (a / 64) ∨ H.cls (a / 64) = -1) → 1 ≤ a / 64 := by
      intro hh
      rcases Nat.eq_zero_or_pos (a / 64) with e | e
      · rw [e, hW.c0] at hh; omega
      · exact e
    split at h
    · rename_i hl
      left
      have e : a = 64 * (a / 64) := by omega
      exact ⟨a / 64, hsn, hs1 (.inr hl.1), hl.1, e, by rw [e]; rw [show 64 * (a / 64) / 64 = a / 64 from by omega]; exact room_long hsn hl.1⟩
    · split at h
      · rename_i hb
        right
        rcases hW.kind _ hsn with e | e | e | e
        · rw [e] at hb; omega
        · rw [e] at hb; omega
        · rw [e] at hb; omega
        · obtain ⟨c, hc, hcl⟩ := cl_nat e
          rw [hc, Int.toNat_natCast] at hb
          have ho := cl_of hcl hb.2.1
          refine ⟨a / 64, a % 64 / c, c, hsn, hs1 (.inl (by rw [hc]; exact hb.1)), hc, hcl, ho.1, hb.2.2, ho.2, ?_⟩
          rw [ho.2, ← ho.2]
          have := room_class (H := H) hsn hc hcl ho.1
          rw [← ho.2, if_pos hb.2.2] at this
          exact this
      · exact absurd rfl h

/-- Where a block lies. -/
theorem Wf.inside (hW : H.Wf) {a : Nat} (h : H.room a ≠ 0) : 64 ≤ a ∧ a + H.room a ≤ 64 * H.n ∧ 2 ≤ H.room a ∧ a % 2 = 0 ∧ H.room a ≤ 1048576 := by
  have hnb := hW.nb
  rcases hW.cases h with ⟨s, hs, h1, hc, ha, hr⟩ | ⟨s, k, c, hs, h1, hc, hcl, hk, hb, ha, hr⟩
  · have := hW.lg s hs hc
    omega
  · have hd := cl_div hcl hk
    have hp := cl_pos hcl
    rw [hr, ha]
    have : (64 * s + k * c) % 2 = 0 := by rcases cl_cases hcl with e | e | e | e | e | e <;> subst e <;> omega
    have : 2 ≤ c := by have := cl_cases hcl; omega
    omega

/-- Two blocks lie apart. -/
theorem Wf.apart (hW : H.Wf) {a b : Nat} (ha : H.room a ≠ 0) (hb : H.room b ≠ 0) (hne : a ≠ b) : a + H.room a ≤ b ∨ b + H.room b ≤ a := by
  rcases hW.cases ha with ⟨s, hs, h1, hc, ea, hr⟩ | ⟨s, k, c, hs, h1, hc, hcl, hk, hbt, ea, hr⟩ <;>
    rcases hW.cases hb with ⟨s', hs', h1', hc', eb, hr'⟩ | ⟨s', k', c', hs', h1', hc', hcl', hk', hbt', eb, hr'⟩
  · have g := hW.lg s hs hc
    have g' := hW.lg s' hs' hc'
    rcases Nat.lt_trichotomy s s' with hlt | heq | hgt
    · rcases Nat.lt_or_ge s' (s + H.runs s) with h | h
      · have := g.2.2.2 s' hlt h; omega
      · omega
    · omega
    · rcases Nat.lt_or_ge s (s' + H.runs s') with h | h
      · have := g'.2.2.2 s hgt h; omega
      · omega
  · have g := hW.lg s hs hc
    have hd := cl_div hcl' hk'
    have := cl_pos hcl'
    rcases Nat.lt_trichotomy s s' with hlt | heq | hgt
    · rcases Nat.lt_or_ge s' (s + H.runs s) with h | h
      · have := g.2.2.2 s' hlt h; omega
      · omega
    · subst heq; omega
    · omega
  · have g := hW.lg s' hs' hc'
    have hd := cl_div hcl hk
    have := cl_pos hcl
    rcases Nat.lt_trichotomy s s' with hlt | heq | hgt
    · omega
    · subst heq; omega
    · rcases Nat.lt_or_ge s (s' + H.runs s') with h | h
      · have := g.2.2.2 s hgt h; omega
      · omega
  · have hd := cl_div hcl hk
    have hd' := cl_div hcl' hk'
    rcases Nat.lt_trichotomy s s' with hlt | heq | hgt
    · omega
    · subst heq
      obtain rfl : c = c' := by omega
      rcases Nat.lt_trichotomy k k' with h | h | h
      · have := cl_ne hcl h; omega
      · subst h; omega
      · have := cl_ne hcl h; omega
    · omega

/-! ### A place is taken -/
theorem testBit_or_pow (u k j : Nat) : (u ||| 2 ^ k).testBit j = (u.testBit j || decide (j = k)) := by
  rw [Nat.testBit_or, Nat.testBit_two_pow]
  congr 1
  rw [decide_eq_decide]
  exact eq_comm
theorem testBit_xor_pow (u k j : Nat) : (u ^^^ 2 ^ k).testBit j = (u.testBit j ^^ decide (j = k)) := by
  rw [Nat.testBit_xor, Nat.testBit_two_pow]
  congr 1
  rw [decide_eq_decide]
  exact eq_comm

/-- What Alloc adds, however it finds the place: from H to H' a block at a of r words. -/
structure Adds (H H' : HS) (a r : Nat) : Prop where
  wf : H'.Wf
  n : H'.n = H.n
  was : H.room a = 0
  is : H'.room a = r
  pos : r ≠ 0
  other : ∀ b, b ≠ a → H'.room b = H.room b
  words : H'.words = setr H.words a r 0

theorem Wf.place_adds (hW : H.Wf) {s c : Nat} (hs : s < H.n) (hc : H.cls s = (c : Int)) (hcl : Cl (c : Int)) (hf : H.used s ≠ full c) :
    Adds H (H.place s c) (H.placeAt s c) c := by
  have hp := cl_pos hcl
  have huc := hW.uc s hs (by omega)
  rw [hc, Int.toNat_natCast] at huc
  obtain ⟨hlz, hlb, hll⟩ := lz_spec huc.2 hf (by omega)
  have hlt : H.used s ||| 2 ^ lz (H.used s) < 2 ^ (64 / c) := Nat.or_lt_two_pow huc.2 (Nat.pow_lt_pow_right (by omega) hlz)
  have hroom : ∀ b, H.room b = 0 → (H.place s c).room b ≠ 0 → b = H.placeAt s c := by
    intro b hb
    unfold room place at *
    simp only at *
    intro h
    by_cases e : b / 64 = s
    · rw [e, hc, setf_same, Int.toNat_natCast] at h
      rw [e, hc, Int.toNat_natCast] at hb
      rw [if_neg (by omega)] at h hb
      rw [if_neg (by omega)] at h hb
      split at h
      · rename_i hh
        rw [testBit_or_pow] at hh
        have ho := cl_of hcl hh.2.1
        by_cases ek : b % 64 / c = lz (H.used s)
        · unfold placeAt; rw [← ek, ← e]; exact ho.2
        · simp only [ek, decide_false, Bool.or_false] at hh
          rw [if_pos hh] at hb
          omega
      · omega
    · rw [setf_ne _ _ e] at h
      omega
  have hwf : (H.place s c).Wf := by
    refine ⟨hW.n2, hW.nb, hW.c0, hW.kind, ?_, ?_, hW.lg, hW.mo⟩
    · intro t ht h0
      show setf H.used s _ t = 0
      rw [setf_ne _ _ (by intro e; subst e; simp only [place] at h0; omega)]
      exact hW.un t ht h0
    · intro t ht h0
      show setf H.used s _ t ≠ 0 ∧ setf H.used s _ t < _
      by_cases e : t = s
      · subst e
        rw [setf_same]
        refine ⟨?_, ?_⟩
        · intro hz
          have := congrArg (fun u => Nat.testBit u (lz (H.used t))) hz
          simp only [testBit_or_pow, Nat.zero_testBit] at this
          simp at this
        · show _ < 2 ^ (64 / (H.cls t).toNat)
          rw [hc, Int.toNat_natCast]; exact hlt
      · rw [setf_ne _ _ e]; exact hW.uc t ht h0
  have e1 : H.room (H.placeAt s c) = 0 := by
    unfold placeAt
    rw [room_class hs hc hcl hlz, hlb]; simp
  have e2 : (H.place s c).room (H.placeAt s c) = c := by
    unfold placeAt
    rw [room_class (H := H.place s c) hs hc hcl hlz]
    show (if (setf H.used s _ s).testBit _ = true then c else 0) = c
    rw [setf_same, testBit_or_pow]; simp
  refine ⟨hwf, rfl, e1, e2, by omega, ?_, rfl⟩
  intro b hb
  by_cases h0 : H.room b = 0
  · rw [h0]
    apply Classical.byContradiction
    intro h
    exact hb (hroom b h0 h)
  · rcases hW.cases h0 with ⟨t, ht, h1, hct, ea, hr⟩ | ⟨t, k, c', ht, h1, hct, hcl', hk, hbt, ea, hr⟩
    · rw [hr, ea]; exact room_long (H := H.place s c) ht hct
    · rw [hr, ea, room_class (H := H.place s c) ht hct hcl' hk]
      show (if (setf H.used s _ t).testBit k = true then c' else 0) = c'
      by_cases e : t = s
      · subst e; rw [setf_same, testBit_or_pow, hbt]; simp
      · rw [setf_ne _ _ e, hbt]; simp

/-- A free span gets a class, and its first place is taken. -/
theorem Wf.fresh_adds (hW : H.Wf) {f c : Nat} (hf : f < H.n) (h0 : H.cls f = 0) (hcl : Cl (c : Int)) :
    Adds H ({ H with cls := setf H.cls f c }.place f c) (64 * f) c ∧ H.placeAt f c = 64 * f := by
  have hp := cl_pos hcl
  have hu : H.used f = 0 := hW.un f hf (by omega)
  have hf0 : f ≠ 0 := by intro e; subst e; have := hW.c0; omega
  have ep : H.placeAt f c = 64 * f := by unfold placeAt; rw [hu, lz_zero]; omega
  refine ⟨?_, ep⟩
  have euse : ({ H with cls := setf H.cls f c }.place f c).used = setf H.used f 1 := by
    show setf H.used f (H.used f ||| 2 ^ lz (H.used f)) = _
    rw [hu, lz_zero]; rfl
  have ecls : ({ H with cls := setf H.cls f c }.place f c).cls = setf H.cls f c := rfl
  have eruns : ({ H with cls := setf H.cls f c }.place f c).runs = H.runs := rfl
  have en : ({ H with cls := setf H.cls f c }.place f c).n = H.n := rfl
  have ew : ({ H with cls := setf H.cls f c }.place f c).words = setr H.words (64 * f) c 0 := by
    show setr H.words (64 * f + lz (H.used f) * c) c 0 = _
    rw [hu, lz_zero]; congr 1; omega
  generalize ({ H with cls := setf H.cls f c }.place f c) = H' at *
  have hwf : H'.Wf := by
    refine ⟨by rw [en]; exact hW.n2, by rw [en]; exact hW.nb, by rw [ecls, setf_ne _ _ (Ne.symm hf0)]; exact hW.c0, ?_, ?_, ?_, ?_, ?_⟩
    · intro s hs
      rw [en] at hs
      rw [ecls]
      by_cases e : s = f
      · subst e; rw [setf_same]; exact .inr (.inr (.inr hcl))
      · rw [setf_ne _ _ e]; exact hW.kind s hs
    · intro s hs hle
      rw [en] at hs
      rw [ecls] at hle
      rw [euse]
      by_cases e : s = f
      · subst e; rw [setf_same] at hle; omega
      · rw [setf_ne _ _ e] at hle ⊢; exact hW.un s hs hle
    · intro s hs hle
      rw [en] at hs
      rw [ecls] at hle ⊢
      rw [euse]
      by_cases e : s = f
      · subst e; rw [setf_same, setf_same, Int.toNat_natCast]
        exact ⟨by omega, Nat.one_lt_pow (by omega) (by omega)⟩
      · rw [setf_ne _ _ e] at hle; rw [setf_ne _ _ e, setf_ne _ _ e]; exact hW.uc s hs hle
    · intro s hs hl
      rw [en] at hs
      rw [ecls] at hl ⊢
      rw [eruns, en]
      by_cases e : s = f
      · subst e; rw [setf_same] at hl; omega
      · rw [setf_ne _ _ e] at hl
        have g := hW.lg s hs hl
        refine ⟨g.1, g.2.1, g.2.2.1, fun i hi hi' => ?_⟩
        have gi := g.2.2.2 i hi hi'
        rw [setf_ne _ _ (by intro e; subst e; omega)]; exact gi
    · intro s hs h1 hl
      rw [en] at hs
      rw [ecls] at hl ⊢
      rw [eruns]
      by_cases e : s = f
      · subst e; rw [setf_same] at hl; omega
      · rw [setf_ne _ _ e] at hl
        obtain ⟨g, hg1, hg2, hg3, hg4⟩ := hW.mo s hs h1 hl
        exact ⟨g, hg1, hg2, by rw [setf_ne _ _ (by intro e; subst e; omega)]; exact hg3, hg4⟩
  have rc : ∀ k, k < 64 / c → H'.room (64 * f + k * c) = if k = 0 then c else 0 := by
    intro k hk
    rw [room_class (H := H') (by rw [en]; exact hf) (by rw [ecls, setf_same]) hcl hk, euse, setf_same]
    rw [show (1 : Nat) = 2 ^ 0 from rfl, Nat.testBit_two_pow]
    by_cases e : k = 0
    · subst e; simp
    · rw [if_neg (by simpa using fun h => e h.symm), if_neg e]
  have zero : ∀ b, b / 64 = f → H.room b = 0 := by
    intro b hb
    apply Classical.byContradiction
    intro h
    rcases hW.cases h with ⟨t, ht, h1, hct, ea, hr⟩ | ⟨t, k, c', ht, h1, hct, hcl', hk, hbt, ea, hr⟩
    · have : t = f := by omega
      subst this; omega
    · have := cl_at (s := t) hcl' hk
      rw [ea] at hb
      have : t = f := by omega
      subst this
      have := cl_pos hcl'
      omega
  refine ⟨hwf, en, zero _ (by omega), ?_, by omega, ?_, ew⟩
  · have := rc 0 (by omega); simpa using this
  · intro b hb
    by_cases e : b / 64 = f
    · rw [zero b e]
      apply Classical.byContradiction
      intro h
      rcases hwf.cases h with ⟨t, ht, h1, hct, ea, hr⟩ | ⟨t, k, c', ht, h1, hct, hcl', hk, hbt, ea, hr⟩
      · have : t = f := by omega
        subst this
        rw [ecls, setf_same] at hct
        omega
      · have := cl_at (s := t) hcl' hk
        rw [ea] at e
        have : t = f := by omega
        subst this
        rw [ecls, setf_same] at hct
        have : c' = c := by omega
        subst this
        have := rc k hk
        rw [← ea, if_neg (by intro e; subst e; simp at ea; omega)] at this
        omega
    · unfold room
      rw [en, ecls, euse, eruns, setf_ne _ _ e, setf_ne _ _ e]

/-! ### A row of spans is taken -/
theorem cons_spec (cls : Nat → Int) (k : Nat) : cons cls k ≤ k ∧ ∀ i, k - cons cls k ≤ i → i < k → cls i = 0 := by
  induction k with
  | zero => exact ⟨by simp [cons], fun i _ h => by omega⟩
  | succ k ih =>
    simp only [cons]
    split
    · rename_i h
      refine ⟨by omega, fun i hi hi' => ?_⟩
      by_cases e : i = k
      · subst e; exact h
      · exact ih.2 i (by omega) (by omega)
    · exact ⟨by omega, fun i hi hi' => by omega⟩
theorem cons_ge {cls : Nat → Int} {k m : Nat} (hm : m ≤ k) (h : ∀ i, k - m ≤ i → i < k → cls i = 0) : m ≤ cons cls k := by
  induction k generalizing m with
  | zero => omega
  | succ k ih =>
    by_cases e : m = 0
    · omega
    · simp only [cons]
      rw [if_pos (h k (by omega) (by omega))]
      have := ih (m := m - 1) (by omega) (fun i hi hi' => h i (by omega) (by omega))
      omega

theorem Wf.run_adds (hW : H.Wf) {f m : Nat} (hm : 2 ≤ m) (hf : f + m ≤ H.n) (h0 : ∀ i, f ≤ i → i < f + m → H.cls i = 0) :
    Adds H { H with cls := setf (setr H.cls f m (-2)) f (-1), runs := setf H.runs f m, words := setr H.words (64 * f) (64 * m) 0 } (64 * f) (64 * m) := by
  have hf0 : f ≠ 0 := by intro e; subst e; have := hW.c0; have := h0 0 (by omega) (by omega); omega
  generalize hH : ({ H with cls := setf (setr H.cls f m (-2)) f (-1), runs := setf H.runs f m, words := setr H.words (64 * f) (64 * m) 0 } : HS) = H'
  have ecf : H'.cls f = -1 := by subst hH; exact setf_same _ _ _
  have eci : ∀ i, f < i → i < f + m → H'.cls i = -2 := by
    intro i h1 h2; subst hH
    show setf (setr H.cls f m (-2)) f (-1) i = -2
    rw [setf_ne _ _ (by omega), setr_in _ _ (by omega) h2]
  have eco : ∀ i, i < f ∨ f + m ≤ i → H'.cls i = H.cls i := by
    intro i h; subst hH
    show setf (setr H.cls f m (-2)) f (-1) i = _
    rw [setf_ne _ _ (by omega), setr_out _ _ h]
  have euse : H'.used = H.used := by subst hH; rfl
  have erf : H'.runs f = m := by subst hH; exact setf_same _ _ _
  have ero : ∀ i, i ≠ f → H'.runs i = H.runs i := by intro i h; subst hH; exact setf_ne _ _ h
  have en : H'.n = H.n := by subst hH; rfl
  have ew : H'.words = setr H.words (64 * f) (64 * m) 0 := by subst hH; rfl
  clear hH
  have tri : ∀ i, i = f ∨ (f < i ∧ i < f + m) ∨ (i < f ∨ f + m ≤ i) := by intro i; omega
  have hwf : H'.Wf := by
    refine ⟨by rw [en]; exact hW.n2, by rw [en]; exact hW.nb, by rw [eco 0 (by omega)]; exact hW.c0, ?_, ?_, ?_, ?_, ?_⟩
    · intro s hs
      rw [en] at hs
      rcases tri s with e | e | e
      · subst e; exact .inr (.inl ecf)
      · exact .inr (.inr (.inl (eci s e.1 e.2)))
      · rw [eco s e]; exact hW.kind s hs
    · intro s hs hle
      rw [en] at hs
      rw [euse]
      rcases tri s with e | e | e
      · subst e; exact hW.un s hs (by rw [h0 s (by omega) (by omega)]; omega)
      · exact hW.un s hs (by rw [h0 s (by omega) (by omega)]; omega)
      · rw [eco s e] at hle; exact hW.un s hs hle
    · intro s hs hle
      rw [en] at hs
      rw [euse]
      rcases tri s with e | e | e
      · subst e; omega
      · have := eci s e.1 e.2; omega
      · rw [eco s e] at hle ⊢; exact hW.uc s hs hle
    · intro s hs hl
      rw [en] at hs ⊢
      rcases tri s with e | e | e
      · subst e; rw [erf]; exact ⟨by omega, by omega, by omega, fun i h1 h2 => eci i h1 h2⟩
      · have := eci s e.1 e.2; omega
      · rw [eco s e] at hl
        have g := hW.lg s hs hl
        rw [ero s (by omega)]
        refine ⟨g.1, g.2.1, g.2.2.1, fun i hi hi' => ?_⟩
        have gi := g.2.2.2 i hi hi'
        rcases tri i with e' | e' | e'
        · subst e'; have := h0 i (by omega) (by omega); omega
        · have := h0 i (by omega) (by omega); omega
        · rw [eco i e']; exact gi
    · intro s hs h1 hl
      rw [en] at hs
      rcases tri s with e | e | e
      · subst e; omega
      · exact ⟨f, by omega, e.1, ecf, by rw [erf]; exact e.2⟩
      · rw [eco s e] at hl
        obtain ⟨g, hg1, hg2, hg3, hg4⟩ := hW.mo s hs h1 hl
        have hgo : g < f ∨ f + m ≤ g := by
          rcases tri g with e' | e' | e'
          · subst e'; have := h0 g (by omega) (by omega); omega
          · have := h0 g (by omega) (by omega); omega
          · exact e'
        exact ⟨g, hg1, hg2, by rw [eco g hgo]; exact hg3, by rw [ero g (by omega)]; exact hg4⟩
  have zero : ∀ b, f ≤ b / 64 → b / 64 < f + m → H.room b = 0 := by
    intro b hb hb'
    apply Classical.byContradiction
    intro h
    rcases hW.cases h with ⟨t, ht, h1, hct, ea, hr⟩ | ⟨t, k, c', ht, h1, hct, hcl', hk, hbt, ea, hr⟩
    · have := h0 t (by omega) (by omega); omega
    · have := cl_at (s := t) hcl' hk
      rw [ea] at hb hb'
      have := h0 t (by omega) (by omega)
      have := cl_pos hcl'
      omega
  refine ⟨hwf, en, zero _ (by omega) (by omega), ?_, by omega, ?_, ew⟩
  · rw [room_long (H := H') (by rw [en]; omega) ecf, erf]
  · intro b hb
    by_cases e : f ≤ b / 64 ∧ b / 64 < f + m
    · rw [zero b e.1 e.2]
      apply Classical.byContradiction
      intro h
      rcases hwf.cases h with ⟨t, ht, h1, hct, ea, hr⟩ | ⟨t, k, c', ht, h1, hct, hcl', hk, hbt, ea, hr⟩
      · have : t ≠ f := by intro e; subst e; exact hb ea
        have := eci t (by omega) (by omega); omega
      · have := cl_at (s := t) hcl' hk
        rw [ea] at e
        have := cl_pos hcl'
        rcases tri t with e' | e' | e'
        · subst e'; omega
        · have := eci t e'.1 e'.2; omega
        · omega
    · unfold room
      rw [en, eco _ (by omega), euse, ero _ (by omega)]

/-- How many words a block for x words takes. -/
def roomOf (x : Nat) : Nat := if 64 < x then 64 * ((x + 63) / 64) else classOf x

theorem Wf.alloc_adds (hW : H.Wf) {x : Int} {a : Nat} {H' : HS} (h : H.alloc x = some (a, H')) : 1 ≤ x ∧ x ≤ 16448 ∧ Adds H H' a (roomOf x.toNat) := by
  unfold alloc at h
  split at h
  · cases h
  · rename_i hx
    refine ⟨by omega, by omega, ?_⟩
    split at h
    · rename_i hb
      unfold roomOf
      rw [if_pos (by omega)]
      unfold allocRun at h
      split at h
      · rename_i s hs
        simp only [Option.some.injEq, Prod.mk.injEq] at h
        obtain ⟨rfl, rfl⟩ := h
        have h1 := first_some.1 hs
        have hc := of_decide_eq_true h1.2.1
        have hsp := cons_spec H.cls (s + 1)
        rw [hc] at hsp
        refine hW.run_adds (by omega) (by omega) (fun i hi hi' => hsp.2 i (by omega) (by omega))
      · cases h
    · rename_i hb
      unfold roomOf
      rw [if_neg (by omega)]
      have hcl := cl_classOf x.toNat (by omega)
      unfold allocSmall at h
      split at h
      · rename_i s hs
        simp only [Option.some.injEq, Prod.mk.injEq] at h
        obtain ⟨rfl, rfl⟩ := h
        have h1 := first_some.1 hs
        have h2 := h1.2.1
        unfold hasRoom at h2
        simp only [Bool.and_eq_true, decide_eq_true_eq] at h2
        exact hW.place_adds h1.1 h2.1 hcl.1 h2.2
      · split at h
        · rename_i f hf
          simp only [Option.some.injEq, Prod.mk.injEq] at h
          obtain ⟨rfl, rfl⟩ := h
          have h1 := first_some.1 hf
          have h2 := of_decide_eq_true h1.2.1
          have := hW.fresh_adds h1.1 h2 hcl.1
          rw [this.2]
          exact this.1
        · cases h
theorem roomOf_ge {x : Nat} : x ≤ roomOf x := by
  unfold roomOf
  split
  · omega
  · exact (cl_classOf x (by omega)).2

/-! ### Free -/
structure Takes (H H' : HS) (a : Nat) : Prop where
  wf : H'.Wf
  n : H'.n = H.n
  is : H'.room a = 0
  other : ∀ b, b ≠ a → H'.room b = H.room b
  words : H'.words = H.words

theorem Wf.free_takes (hW : H.Wf) {a : Nat} (h : H.room a ≠ 0) : Takes H (H.freeAt a) a := by
  rcases hW.cases h with ⟨s, hs, h1, hc, ea, hr⟩ | ⟨s, k, c, hs, h1, hc, hcl, hk, hb, ea, hr⟩
  · have es : a / 64 = s := by omega
    have g := hW.lg s hs hc
    obtain ⟨H', hH, en, ew, er, eu, eci, eco⟩ : ∃ H' : HS, H.freeAt a = H' ∧ H'.n = H.n ∧ H'.words = H.words ∧ H'.runs = H.runs ∧ H'.used = H.used ∧
        (∀ t, s ≤ t → t < s + H.runs s → H'.cls t = 0) ∧ ∀ t, t < s ∨ s + H.runs s ≤ t → H'.cls t = H.cls t := by
      refine ⟨_, rfl, ?_⟩
      unfold freeAt
      rw [es, if_pos hc]
      exact ⟨rfl, rfl, rfl, rfl, fun t h1 h2 => setr_in _ _ h1 h2, fun t h => setr_out _ _ h⟩
    rw [hH]
    clear hH
    have hout : ∀ t, t < H.n → H.cls t = -1 → t ≠ s → t < s ∨ s + H.runs s ≤ t := by
      intro t ht hct hne
      rcases Nat.lt_or_ge t s with e | e
      · exact .inl e
      · rcases Nat.lt_or_ge t (s + H.runs s) with e' | e'
        · have := g.2.2.2 t (by omega) e'; omega
        · exact .inr e'
    have tri : ∀ t, (s ≤ t ∧ t < s + H.runs s) ∨ (t < s ∨ s + H.runs s ≤ t) := by intro t; omega
    have hwf : H'.Wf := by
      refine ⟨by rw [en]; exact hW.n2, by rw [en]; exact hW.nb, by rw [eco 0 (by omega)]; exact hW.c0, ?_, ?_, ?_, ?_, ?_⟩
      · intro t ht
        rw [en] at ht
        rcases tri t with e | e
        · exact .inl (eci t e.1 e.2)
        · rw [eco t e]; exact hW.kind t ht
      · intro t ht hle
        rw [en] at ht
        rw [eu]
        apply hW.un t ht
        rcases tri t with e | e
        · by_cases e2 : t = s
          · subst e2; omega
          · have := g.2.2.2 t (by omega) e.2; omega
        · rw [eco t e] at hle; exact hle
      · intro t ht hle
        rw [en] at ht
        rw [eu]
        rcases tri t with e | e
        · have := eci t e.1 e.2; omega
        · rw [eco t e] at hle ⊢; exact hW.uc t ht hle
      · intro t ht hl
        rw [en] at ht ⊢
        rw [er]
        rcases tri t with e | e
        · have := eci t e.1 e.2; omega
        · rw [eco t e] at hl
          have gt := hW.lg t ht hl
          refine ⟨gt.1, gt.2.1, gt.2.2.1, fun i hi hi' => ?_⟩
          have gi := gt.2.2.2 i hi hi'
          rcases tri i with e3 | e3
          · rcases Nat.lt_or_ge t s with e5 | e5
            · have := gt.2.2.2 s e5 (by omega); omega
            · omega
          · rw [eco i e3]; exact gi
      · intro t ht h1t hl
        rw [en] at ht
        rw [er]
        rcases tri t with e | e
        · have := eci t e.1 e.2; omega
        · rw [eco t e] at hl
          obtain ⟨q, hq1, hq2, hq3, hq4⟩ := hW.mo t ht h1t hl
          have hqs : q ≠ s := by intro e2; subst e2; omega
          have hqn : q < H.n := by omega
          have := hout q hqn hq3 hqs
          exact ⟨q, hq1, hq2, by rw [eco q this]; exact hq3, hq4⟩
    refine ⟨hwf, en, ?_, ?_, ew⟩
    · unfold room
      rw [es, eci s (by omega) (by omega)]
      simp
    · intro b hb
      rcases tri (b / 64) with e | e
      · have z : H'.room b = 0 := by
          unfold room
          rw [eci _ e.1 e.2]
          simp
        rw [z]
        symm
        apply Classical.byContradiction
        intro hh
        rcases hW.cases hh with ⟨t, ht, h1', hct, ea', hr'⟩ | ⟨t, k', c', ht, h1', hct, hcl', hk', hbt, ea', hr'⟩
        · have : t ≠ s := by intro e2; subst e2; omega
          have := hout t ht hct this
          omega
        · have := cl_at (s := t) hcl' hk'
          have := cl_pos hcl'
          rw [ea'] at e
          by_cases e2 : t = s
          · subst e2; omega
          · have := g.2.2.2 t (by omega) (by omega); omega
      · unfold room
        rw [en, eco _ e, eu, er]
  · have ha := cl_at (s := s) hcl hk
    have hp := cl_pos hcl
    have huc := hW.uc s hs (by omega)
    rw [hc, Int.toNat_natCast] at huc
    have hux : H.used s ^^^ 2 ^ k < 2 ^ (64 / c) := Nat.xor_lt_two_pow huc.2 (Nat.pow_lt_pow_right (by omega) hk)
    have hs0 : s ≠ 0 := by omega
    -- the two ways, under one name
    obtain ⟨H', hH, en, ew, er, eu, eus, ecs, eco⟩ : ∃ H' : HS, H.freeAt a = H' ∧ H'.n = H.n ∧ H'.words = H.words ∧ H'.runs = H.runs ∧ (∀ t, t ≠ s → H'.used t = H.used t) ∧
        H'.used s = H.used s ^^^ 2 ^ k ∧ H'.cls s = (if H.used s ^^^ 2 ^ k = 0 then 0 else (c : Int)) ∧ ∀ t, t ≠ s → H'.cls t = H.cls t := by
      refine ⟨_, rfl, ?_⟩
      subst ea
      unfold freeAt
      rw [ha.1, hc, Int.toNat_natCast, ha.2.2, if_neg (by omega)]
      split
      · rename_i hz
        exact ⟨rfl, rfl, rfl, fun t ht => setf_ne _ _ ht, by rw [hz]; exact setf_same _ _ _, setf_same _ _ _, fun t ht => setf_ne _ _ ht⟩
      · rename_i hz
        exact ⟨rfl, rfl, rfl, fun t ht => setf_ne _ _ ht, setf_same _ _ _, by exact hc, fun t ht => rfl⟩
    rw [hH]
    have csle : H'.cls s = 0 ∨ H'.cls s = c := by rw [ecs]; split <;> simp
    have hwf : H'.Wf := by
      refine ⟨by rw [en]; exact hW.n2, by rw [en]; exact hW.nb, by rw [eco 0 (Ne.symm hs0)]; exact hW.c0, ?_, ?_, ?_, ?_, ?_⟩
      · intro t ht
        rw [en] at ht
        by_cases e : t = s
        · subst e
          rcases csle with e | e <;> rw [e]
          · exact .inl rfl
          · exact .inr (.inr (.inr hcl))
        · rw [eco t e]; exact hW.kind t ht
      · intro t ht hle
        rw [en] at ht
        by_cases e : t = s
        · subst e
          rw [ecs] at hle
          rw [eus]
          split at hle
          · assumption
          · omega
        · rw [eco t e] at hle; rw [eu t e]; exact hW.un t ht hle
      · intro t ht hle
        rw [en] at ht
        by_cases e : t = s
        · subst e
          rw [ecs] at hle ⊢
          rw [eus]
          split at hle
          · omega
          · rename_i hz
            rw [if_neg hz, Int.toNat_natCast]
            exact ⟨hz, hux⟩
        · rw [eco t e] at hle ⊢; rw [eu t e]; exact hW.uc t ht hle
      · intro t ht hl
        rw [en] at ht ⊢
        rw [er]
        by_cases e : t = s
        · subst e; rcases csle with e | e <;> omega
        · rw [eco t e] at hl
          have g := hW.lg t ht hl
          refine ⟨g.1, g.2.1, g.2.2.1, fun i hi hi' => ?_⟩
          have gi := g.2.2.2 i hi hi'
          rw [eco i (by intro e2; subst e2; omega)]; exact gi
      · intro t ht h1t hl
        rw [en] at ht
        rw [er]
        by_cases e : t = s
        · subst e; rcases csle with e | e <;> omega
        · rw [eco t e] at hl
          obtain ⟨q, hq1, hq2, hq3, hq4⟩ := hW.mo t ht h1t hl
          exact ⟨q, hq1, hq2, by rw [eco q (by intro e2; subst e2; omega)]; exact hq3, hq4⟩
    have rs : ∀ j, j < 64 / c → H'.room (64 * s + j * c) = if ((H.used s).testBit j ^^ decide (j = k)) = true then c else 0 := by
      intro j hj
      by_cases hz : H.used s ^^^ 2 ^ k = 0
      · rw [if_pos hz] at ecs
        have hq := congrArg (fun u => Nat.testBit u j) hz
        simp only [testBit_xor_pow, Nat.zero_testBit] at hq
        rw [hq]
        unfold room
        have hj' := cl_at (s := s) hcl hj
        rw [hj'.1, ecs]
        simp
      · rw [if_neg hz] at ecs
        rw [room_class (H := H') (by rw [en]; exact hs) ecs hcl hj, eus, testBit_xor_pow]
    refine ⟨hwf, en, ?_, ?_, ew⟩
    · rw [ea, rs k hk, hb]; simp
    · intro b hbne
      by_cases e : b / 64 = s
      · by_cases h0 : H.room b = 0
        · rw [h0]
          apply Classical.byContradiction
          intro hh
          rcases hwf.cases hh with ⟨t, ht, h1', hct, ea', hr'⟩ | ⟨t, k', c', ht, h1', hct, hcl', hk', hbt, ea', hr'⟩
          · have : t = s := by omega
            subst this; rcases csle with e | e <;> omega
          · have h4 := cl_at (s := t) hcl' hk'
            have := cl_pos hcl'
            have : t = s := by rw [ea'] at e; omega
            subst this
            have : c' = c := by rcases csle with e | e <;> omega
            subst this
            have hkk : k' ≠ k := by intro e2; subst e2; omega
            rw [ea', rs k' hk'] at hh
            rw [ea', room_class hs hc hcl hk'] at h0
            simp only [hkk, decide_false, Bool.xor_false] at hh
            omega
        · rcases hW.cases h0 with ⟨t, ht, h1', hct, ea', hr'⟩ | ⟨t, k', c', ht, h1', hct, hcl', hk', hbt, ea', hr'⟩
          · have : t = s := by omega
            subst this; omega
          · have h4 := cl_at (s := t) hcl' hk'
            have : t = s := by rw [ea'] at e; omega
            subst this
            have : c' = c := by omega
            subst this
            have hkk : k' ≠ k := by intro e2; subst e2; omega
            rw [hr', ea', rs k' hk', hbt]
            simp [hkk]
      · unfold room
        rw [en, eco _ e, eu _ e, er]

end HS
end Go.Proofs.Ytnbiofcfphpikaa
