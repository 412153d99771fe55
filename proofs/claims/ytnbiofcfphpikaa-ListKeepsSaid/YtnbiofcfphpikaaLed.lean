/-
  The ledger of a space: how many blocks of each class were ever allotted, and what that says of its spans.
-/
import Derived.Test.YtnbiofcfphpikaaObjs
import Derived.Test.YtnbiofcfphpikaaBud
namespace Go.Proofs.Ytnbiofcfphpikaa

def up (a m : Nat) : Nat := (a + m - 1) / m
/-- t c: blocks of class c; e: spans of runs. -/
structure Lg where
  t : Nat → Nat
  e : Nat
namespace Lg
def cost (L : Lg) : Nat := 1 + L.e + up (L.t 2) 32 + up (L.t 4) 16 + up (L.t 8) 8 + up (L.t 16) 4 + up (L.t 32) 2 + up (L.t 64) 1
def add (L : Lg) (x : Nat) : Lg := if 64 < x then { L with e := L.e + (x + 63) / 64 } else { L with t := setf L.t (HS.classOf x) (L.t (HS.classOf x) + 1) }
def none : Lg := ⟨fun _ => 0, 0⟩
def le (L L' : Lg) : Prop := L.t 2 ≤ L'.t 2 ∧ L.t 4 ≤ L'.t 4 ∧ L.t 8 ≤ L'.t 8 ∧ L.t 16 ≤ L'.t 16 ∧ L.t 32 ≤ L'.t 32 ∧ L.t 64 ≤ L'.t 64 ∧ L.e ≤ L'.e
end Lg
namespace HS
theorem up_mono {a b : Nat} (h : a ≤ b) (m : Nat) : up a m ≤ up b m := Nat.div_le_div_right (by omega)
/-- What the ledger says. -/
structure Led (H : HS) (L : Lg) : Prop where
  b : ∀ c : Nat, Cl (c : Int) → (H.blk c).length ≤ L.t c ∧ (H.spn c).length ≤ up (L.t c) (64 / c)
  r : H.rsp.length ≤ L.e
  f : H.Front L.cost
variable {H H' : HS} {L L' : Lg}
theorem Lg.cost_mono (h : L.le L') : L.cost ≤ L'.cost := by
  obtain ⟨h1, h2, h3, h4, h5, h6, h7⟩ := h
  have := up_mono h1 32
  have := up_mono h2 16
  have := up_mono h3 8
  have := up_mono h4 4
  have := up_mono h5 2
  have := up_mono h6 1
  unfold Lg.cost
  omega
theorem Lg.le_at (h : L.le L') {c : Nat} (hc : Cl (c : Int)) : L.t c ≤ L'.t c := by
  obtain ⟨h1, h2, h3, h4, h5, h6, h7⟩ := h
  rcases cl_cases hc with rfl | rfl | rfl | rfl | rfl | rfl <;> assumption
theorem Led.mono (h : Led H L) (hl : L.le L') : Led H L' :=
  ⟨fun c hc => ⟨Nat.le_trans (h.b c hc).1 (Lg.le_at hl hc), Nat.le_trans (h.b c hc).2 (up_mono (Lg.le_at hl hc) _)⟩, Nat.le_trans h.r hl.2.2.2.2.2.2, h.f.mono (Lg.cost_mono hl)⟩
theorem cls_all : Cl ((2 : Nat) : Int) ∧ Cl ((4 : Nat) : Int) ∧ Cl ((8 : Nat) : Int) ∧ Cl ((16 : Nat) : Int) ∧ Cl ((32 : Nat) : Int) ∧ Cl ((64 : Nat) : Int) := by unfold Cl; omega
theorem Lg.add_small (L : Lg) {x : Nat} (hx : x ≤ 64) : L.add x = { L with t := setf L.t (classOf x) (L.t (classOf x) + 1) } := by unfold Lg.add; rw [if_neg (by omega)]
theorem Lg.le_add (L : Lg) (x : Nat) : L.le (L.add x) := by
  unfold Lg.add
  split
  · exact ⟨Nat.le_refl _, Nat.le_refl _, Nat.le_refl _, Nat.le_refl _, Nat.le_refl _, Nat.le_refl _, Nat.le_add_right _ _⟩
  · have key : ∀ c, L.t c ≤ setf L.t (classOf x) (L.t (classOf x) + 1) c := fun c => by
      unfold setf; split
      · rename_i e; subst e; omega
      · exact Nat.le_refl _
    exact ⟨key _, key _, key _, key _, key _, key _, Nat.le_refl _⟩
/-- The spans are fewer than the next cost while the class's are. -/
theorem Led.sum (h : Led H L) {c : Nat} (hc : Cl (c : Int)) (hs : (H.spn c).length < up (L.t c + 1) (64 / c)) :
    1 + H.rsp.length + (H.spn 2).length + (H.spn 4).length + (H.spn 8).length + (H.spn 16).length + (H.spn 32).length + (H.spn 64).length < ({ L with t := setf L.t c (L.t c + 1) } : Lg).cost := by
  have g := cls_all
  have h1 := (h.b 2 g.1).2
  have h2 := (h.b 4 g.2.1).2
  have h3 := (h.b 8 g.2.2.1).2
  have h4 := (h.b 16 g.2.2.2.1).2
  have h5 := (h.b 32 g.2.2.2.2.1).2
  have h6 := (h.b 64 g.2.2.2.2.2).2
  have h7 := h.r
  unfold Lg.cost
  rcases cl_cases hc with rfl | rfl | rfl | rfl | rfl | rfl
  all_goals
    simp only [setf, Nat.reduceEqDiff, if_true, if_false, Nat.reduceDiv] at *
    omega
theorem up_mul {a c : Nat} (hc : Cl (c : Int)) : a < up (a + 1) (64 / c) * (64 / c) := by
  unfold up
  rcases cl_cases hc with rfl | rfl | rfl | rfl | rfl | rfl
  all_goals
    simp only [Nat.reduceDiv]
    omega
theorem Led.small (h : Led H L) (hW : H.Wf) {x : Nat} (h1 : 1 ≤ x) (hx : x ≤ 64) (hN : (L.add x).cost ≤ H.n) :
    ∃ a H', H.alloc x = some (a, H') ∧ Adds H H' a (roomOf x) ∧ Led H' (L.add x) := by
  have hc := (cl_classOf x hx).1
  have hp := cl_pos hc
  have hmono := Lg.cost_mono (Lg.le_add L x)
  have hro : roomOf x = classOf x := by unfold roomOf; rw [if_neg (by omega)]
  rw [Lg.add_small L hx] at hN hmono ⊢
  have hb := h.b _ hc
  have hsum := fun hs => h.sum hc hs
  obtain ⟨a, H', ha, hadd, hsp, hin, hat⟩ := alloc_small hW h1 hx (S := up (L.t (classOf x) + 1) (64 / classOf x)) (Nat.lt_of_le_of_lt hb.1 (up_mul hc)) (Nat.le_trans hb.2 (up_mono (by omega) _)) (fun hs => free_span hW (Nat.lt_of_lt_of_le (hsum hs) hN))
  rw [hro] at hadd ⊢
  refine ⟨a, H', ha, hadd, ⟨fun c hc' => ?_, ?_, fun b hb' => ?_⟩⟩
  · show _ ≤ setf L.t (classOf x) (L.t (classOf x) + 1) c ∧ _ ≤ up (setf L.t (classOf x) (L.t (classOf x) + 1) c) (64 / c)
    by_cases e : c = classOf x
    · subst e
      rw [setf_same]
      exact ⟨Nat.le_trans (adds_blk hW hadd hc) (by omega), hsp⟩
    · rw [setf_ne _ _ e]
      have := adds_other hW hadd hc' (fun e' => e e'.symm)
      have hb2 := h.b c hc'
      exact ⟨Nat.le_trans this.2 hb2.1, Nat.le_trans this.1 hb2.2⟩
  · refine Nat.le_trans (rsp_less hW hadd.wf hadd.n fun b hb' => ?_) h.r
    by_cases e : b = a
    · subst e; rw [hadd.is] at hb'; omega
    · exact (hadd.other b e).symm
  · by_cases e : b = a
    · subst e
      rw [hadd.is]
      rcases hat with hat | ⟨hlt, hn, hlow⟩
      · obtain ⟨b', hb1, hb2⟩ := block_of_span hW hc hat
        have := h.f b' (by omega)
        omega
      · have h3 := first_low hW hn hlow
        have h4 := hsum hlt
        omega
    · rw [hadd.other b e] at hb' ⊢
      have := h.f b hb'
      omega
theorem Led.run (h : Led H L) (hW : H.Wf) {x : Nat} (hx : 64 < x) (hx2 : x ≤ 16448) (hN : (L.add x).cost ≤ H.n) :
    ∃ a H', H.alloc x = some (a, H') ∧ Adds H H' a (roomOf x) ∧ Led H' (L.add x) := by
  have ead : L.add x = { L with e := L.e + (x + 63) / 64 } := by unfold Lg.add; rw [if_pos hx]
  have hro : roomOf x = 64 * ((x + 63) / 64) := by unfold roomOf; rw [if_pos hx]
  have hsp : spansOf x = (x + 63) / 64 := by unfold spansOf; rw [if_pos hx]
  have hco : (L.add x).cost = L.cost + (x + 63) / 64 := by rw [ead]; unfold Lg.cost; simp only []; omega
  have hc1 : 1 ≤ L.cost := by unfold Lg.cost; omega
  obtain ⟨a, H', ha, hadd, hf⟩ := hW.alloc_front h.f hc1 (x := (x : Int)) (by omega) (by omega) (by rw [Int.toNat_natCast, hsp, ← hco]; exact hN)
  rw [Int.toNat_natCast] at hadd hf
  rw [hsp, ← hco] at hf
  refine ⟨a, H', ha, hadd, ⟨fun c hc => ?_, ?_, hf⟩⟩
  · have hp := cl_pos hc
    have := adds_other hW hadd hc (by rw [hro]; omega)
    have hb2 := h.b c hc
    rw [ead]
    exact ⟨Nat.le_trans this.2 hb2.1, Nat.le_trans this.1 hb2.2⟩
  · rw [ead]
    show _ ≤ L.e + (x + 63) / 64
    rw [hro] at hadd
    generalize (x + 63) / 64 = m at *
    have := nodup_length_le (l := H'.rsp) (m := H.rsp ++ (List.range m).map fun i => a / 64 + i) (List.Pairwise.filter _ List.nodup_range) fun s hs => by
      obtain ⟨h1, h2, h3⟩ := mem_rsp.1 hs
      rw [List.mem_append, List.mem_map]
      have run : ∀ f, f < H'.n → H'.cls f = -1 → (64 * f = a ∧ H'.runs f = m) ∨ (H.cls f = -1 ∧ H.runs f = H'.runs f) := by
        intro f hf hc
        have h1 := room_long hf hc
        have h2 := (hadd.wf.lg f hf hc).2.1
        by_cases e : 64 * f = a
        · rw [e, hadd.is] at h1; exact .inl ⟨e, by omega⟩
        · right
          rw [hadd.other _ e] at h1
          have hf' : f < H.n := by have := hadd.n; omega
          unfold room at h1
          rw [if_neg (by have := hadd.n; omega)] at h1
          have e : 64 * f / 64 = f := by omega
          rw [e] at h1
          split at h1
          · rename_i h4; exact ⟨h4.1, by omega⟩
          · split at h1
            · rename_i h4
              have hk := hW.kind f hf'
              unfold Cl at hk
              omega
            · omega
      rcases h3 with h3 | h3
      · rcases run s h1 h3 with ⟨e, e2⟩ | ⟨e, e2⟩
        · have hm : 1 ≤ m := by have := (hadd.wf.lg s h1 h3).2.1; omega
          exact .inr ⟨0, List.mem_range.2 (by omega), by omega⟩
        · exact .inl (mem_rsp.2 ⟨by have := hadd.n; omega, h2, .inl e⟩)
      · obtain ⟨f, f1, f2, f3, f4⟩ := hadd.wf.mo s h1 h2 h3
        rcases run f (by omega) f3 with ⟨e, e2⟩ | ⟨e, e2⟩
        · exact .inr ⟨s - f, List.mem_range.2 (by omega), by omega⟩
        · refine .inl (mem_rsp.2 ⟨by have := hadd.n; omega, h2, .inr ?_⟩)
          exact (hW.lg f (by have := hadd.n; omega) e).2.2.2 s f2 (by omega)
    rw [List.length_append, List.length_map, List.length_range] at this
    have := h.r
    omega
theorem Led.alloc (h : Led H L) (hW : H.Wf) {x : Int} (h1 : 1 ≤ x) (hx2 : x ≤ 16448) (hN : (L.add x.toNat).cost ≤ H.n) :
    ∃ a H', H.alloc x = some (a, H') ∧ Adds H H' a (roomOf x.toNat) ∧ Led H' (L.add x.toNat) := by
  obtain ⟨y, rfl⟩ := Int.eq_ofNat_of_zero_le (show 0 ≤ x by omega)
  rw [Int.toNat_natCast] at hN ⊢
  by_cases hy : y ≤ 64
  · exact h.small hW (by omega) hy hN
  · exact h.run hW (by omega) (by omega) hN
theorem Led.less (h : Led H L) (hW : H.Wf) (hW' : H'.Wf) (hn : H'.n = H.n) (hr : ∀ a, H'.room a = 0 ∨ H'.room a = H.room a) : Led H' L := by
  refine ⟨fun c hc => ?_, ?_, fun b hb => ?_⟩
  · have := HS.less hW hW' hr hc
    have hb := h.b c hc
    exact ⟨Nat.le_trans this.2 hb.1, Nat.le_trans this.1 hb.2⟩
  · refine Nat.le_trans (rsp_less hW hW' hn fun a ha => ?_) h.r
    rcases hr a with e | e
    · omega
    · exact e.symm
  · rcases hr b with e | e
    · exact absurd e hb
    · rw [e] at hb ⊢; exact h.f b hb
theorem Led.swept (h : Led H L) (hW : H.Wf) {roots : List Int} {c : Nat} (hs : Swept H H' roots c) : Led H' L := by
  refine h.less hW hs.wf hs.n fun a => ?_
  by_cases hl : H.Live roots a
  · exact .inr (hs.kept a hl)
  · exact .inl (hs.gone a hl)
theorem Led.empty (hW : H.Wf) (h0 : ∀ a, H.room a = 0) : Led H Lg.none := by
  refine ⟨fun c hc => ?_, ?_, fun b hb => absurd (h0 b) hb⟩
  · have hp := cl_pos hc
    refine ⟨?_, ?_⟩
    · have : H.blk c = [] := by
        rw [List.eq_nil_iff_forall_not_mem]
        intro a ha
        rw [mem_blk hW (by omega), h0] at ha
        omega
      rw [this]; simp
    · have : H.spn c = [] := by
        rw [List.eq_nil_iff_forall_not_mem]
        intro a ha
        obtain ⟨b, hb, _⟩ := block_of_span hW hc ha
        rw [h0] at hb
        omega
      rw [this]; simp
  · have : H.rsp = [] := by
      rw [List.eq_nil_iff_forall_not_mem]
      intro s hs
      obtain ⟨h1, h2, h3⟩ := mem_rsp.1 hs
      have run : ∀ f, f < H.n → H.cls f ≠ -1 := fun f hf hc => by
        have h1 := room_long hf hc
        have h2 := (hW.lg f hf hc).2.1
        rw [h0] at h1
        omega
      rcases h3 with h3 | h3
      · exact run s h1 h3
      · obtain ⟨f, f1, f2, f3, f4⟩ := hW.mo s h1 h2 h3
        exact run f (by omega) f3
    rw [this]; simp
end HS
end Go.Proofs.Ytnbiofcfphpikaa
