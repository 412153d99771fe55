/-
  Two heaps with the same blocks allot alike; may, in, has, Children, Reached.
-/
import Derived.Test.YtnbiofcfphpikaaSorted
import Derived.Test.YtnbiofcfphpikaaPRef2
import Derived.Test.YtnbiofcfphpikaaV3
import Derived.Test.YtnbiofcfphpikaaV4
import Derived.Deep.RegionHeld3
namespace Go.Proofs.Ytnbiofcfphpikaa
namespace HS

/-- The spans of a class; its blocks. -/
def spn (H : HS) (c : Nat) : List Nat := (List.range H.n).filter fun s => decide (H.cls s = (c : Int))
def blk (H : HS) (c : Nat) : List Nat := H.blocks.filter fun a => decide (H.room a = c)
theorem mem_spn {H : HS} {c s : Nat} : s ∈ H.spn c ↔ s < H.n ∧ H.cls s = (c : Int) := by
  unfold spn; rw [List.mem_filter, List.mem_range]; simp
theorem spn_nodup (H : HS) (c : Nat) : (H.spn c).Nodup := List.Pairwise.filter _ List.nodup_range
theorem mem_blk {H : HS} (hW : H.Wf) {c a : Nat} (hc : c ≠ 0) : a ∈ H.blk c ↔ H.room a = c := by
  unfold blk; rw [List.mem_filter, hW.mem_blocks]; simp; intro h; omega
theorem blk_nodup (H : HS) (c : Nat) : (H.blk c).Nodup := List.Pairwise.filter _ H.blocks_nodup
/-- If no span of the class has room, all are full. -/
theorem full_blocks {H : HS} (hW : H.Wf) {c : Nat} (hc : Cl (c : Int)) (h : ∀ s, s < H.n → H.cls s = (c : Int) → H.used s = full c) : (H.spn c).length * (64 / c) ≤ (H.blk c).length := by
  have hp := cl_pos hc
  generalize hm : 64 / c = m at *
  have hin : ∀ i, i < (H.spn c).length * m → i / m < (H.spn c).length := fun i hi => Nat.div_lt_of_lt_mul (by rw [Nat.mul_comm]; exact hi)
  have hsp : ∀ i, i < (H.spn c).length → (H.spn c).getD i 0 < H.n ∧ H.cls ((H.spn c).getD i 0) = (c : Int) := fun i hi => by
    rw [List.getD_eq_getElem?_getD, List.getElem?_eq_getElem hi]
    exact mem_spn.1 (List.getElem_mem hi)
  have hlen := nodup_length_le (l := (List.range ((H.spn c).length * m)).map fun i => 64 * (H.spn c).getD (i / m) 0 + i % m * c) (m := H.blk c) (by
    rw [List.nodup_iff_pairwise_ne, List.pairwise_map]
    refine List.Pairwise.imp_of_mem ?_ (List.nodup_iff_pairwise_ne.1 (List.nodup_range (n := (H.spn c).length * m)))
    intro i j hi hj hne e
    rw [List.mem_range] at hi hj
    have hmi : i % m < 64 / c := by rw [hm]; exact Nat.mod_lt _ (by omega)
    have hmj : j % m < 64 / c := by rw [hm]; exact Nat.mod_lt _ (by omega)
    have h1 := cl_at (s := (H.spn c).getD (i / m) 0) hc hmi
    have h2 := cl_at (s := (H.spn c).getD (j / m) 0) hc hmj
    rw [e] at h1
    have e1 : (H.spn c).getD (i / m) 0 = (H.spn c).getD (j / m) 0 := h1.1.symm.trans h2.1
    have e2 : i % m = j % m := h1.2.2.symm.trans h2.2.2
    have e3 : i / m = j / m := by
      have hi' := hin i hi
      have hj' := hin j hj
      rw [List.getD_eq_getElem?_getD, List.getElem?_eq_getElem hi', List.getD_eq_getElem?_getD, List.getElem?_eq_getElem hj'] at e1
      have hpw := List.pairwise_iff_getElem.1 (List.nodup_iff_pairwise_ne.1 (H.spn_nodup c))
      rcases Nat.lt_trichotomy (i / m) (j / m) with h | h | h
      · exact absurd e1 (hpw _ _ hi' hj' h)
      · exact h
      · exact absurd e1.symm (hpw _ _ hj' hi' h)
    apply hne
    rw [← Nat.div_add_mod i m, ← Nat.div_add_mod j m, e2, e3]) (fun a ha => by
    rw [List.mem_map] at ha
    obtain ⟨i, hi, rfl⟩ := ha
    rw [List.mem_range] at hi
    have hs := hsp _ (hin i hi)
    have hmi : i % m < 64 / c := by rw [hm]; exact Nat.mod_lt _ (by omega)
    rw [mem_blk hW (by omega), room_class hs.1 hs.2 hc hmi, h _ hs.1 hs.2]
    unfold full
    rw [Nat.testBit_two_pow_sub_one, decide_eq_true hmi]
    simp)
  simpa using hlen
/-- A block of a class lies in a span of the class. -/
theorem span_of_block {H : HS} (hW : H.Wf) {c a : Nat} (hc : Cl (c : Int)) (h : H.room a = c) : a / 64 ∈ H.spn c := by
  have hp := cl_pos hc
  have hin := hW.inside (a := a) (by omega)
  have hlt : a / 64 < H.n := by omega
  refine mem_spn.2 ⟨hlt, ?_⟩
  unfold room at h
  rw [if_neg (by omega)] at h
  split at h
  · rename_i h2
    have := (hW.lg _ hlt h2.1).2.1
    omega
  · split at h
    · rename_i h2
      have := h2.1
      omega
    · omega
/-- .. and each span of a class has one. -/
theorem block_of_span {H : HS} (hW : H.Wf) {c s : Nat} (hc : Cl (c : Int)) (h : s ∈ H.spn c) : ∃ a, H.room a = c ∧ a / 64 = s := by
  have hp := cl_pos hc
  obtain ⟨hs, hcs⟩ := mem_spn.1 h
  have hu := hW.uc s hs (by rw [hcs]; omega)
  rw [hcs, Int.toNat_natCast] at hu
  obtain ⟨k, hk⟩ := Nat.exists_testBit_of_ne_zero hu.1
  have hkm : k < 64 / c := by
    apply Classical.byContradiction
    intro hge
    have h2 : (2 : Nat) ^ (64 / c) ≤ 2 ^ k := Nat.pow_le_pow_right (by omega) (by omega)
    rw [Nat.testBit_lt_two_pow (Nat.lt_of_lt_of_le hu.2 h2)] at hk
    cases hk
  refine ⟨64 * s + k * c, ?_, (cl_at hc hkm).1⟩
  rw [room_class hs hcs hc hkm, hk]
  simp
/-- Fewer blocks: fewer spans. -/
theorem less {H H' : HS} (hW : H.Wf) (hW' : H'.Wf) (hr : ∀ a, H'.room a = 0 ∨ H'.room a = H.room a) {c : Nat} (hc : Cl (c : Int)) : (H'.spn c).length ≤ (H.spn c).length ∧ (H'.blk c).length ≤ (H.blk c).length := by
  have hp := cl_pos hc
  refine ⟨nodup_length_le (H'.spn_nodup c) fun s hs => ?_, nodup_length_le (H'.blk_nodup c) fun a ha => ?_⟩
  · obtain ⟨a, h1, rfl⟩ := block_of_span hW' hc hs
    refine span_of_block hW hc ?_
    rcases hr a with e | e
    · omega
    · omega
  · rw [mem_blk hW' (by omega)] at ha
    rw [mem_blk hW (by omega)]
    rcases hr a with e | e
    · omega
    · omega
/-- One block more, of another class. -/
theorem adds_other {H H' : HS} (hW : H.Wf) {a r : Nat} (hA : Adds H H' a r) {c : Nat} (hc : Cl (c : Int)) (hne : r ≠ c) : (H'.spn c).length ≤ (H.spn c).length ∧ (H'.blk c).length ≤ (H.blk c).length := by
  have hp := cl_pos hc
  have key : ∀ b, H'.room b = c → H.room b = c := fun b hb => by
    have : b ≠ a := fun e => by rw [e, hA.is] at hb; omega
    rw [← hA.other b this]; exact hb
  refine ⟨nodup_length_le (H'.spn_nodup c) fun s hs => ?_, nodup_length_le (H'.blk_nodup c) fun b hb => ?_⟩
  · obtain ⟨b, h1, rfl⟩ := block_of_span hA.wf hc hs
    exact span_of_block hW hc (key b h1)
  · rw [mem_blk hA.wf (by omega)] at hb
    rw [mem_blk hW (by omega)]
    exact key b hb
/-- .. or of this one. -/
theorem adds_blk {H H' : HS} (hW : H.Wf) {a r : Nat} (hA : Adds H H' a r) {c : Nat} (hc : Cl (c : Int)) : (H'.blk c).length ≤ (H.blk c).length + 1 := by
  have hp := cl_pos hc
  have := nodup_length_le (l := H'.blk c) (m := a :: H.blk c) (H'.blk_nodup c) fun b hb => by
    rw [mem_blk hA.wf (by omega)] at hb
    by_cases e : b = a
    · rw [e]; simp
    · rw [hA.other b e] at hb
      exact List.mem_cons_of_mem _ ((mem_blk hW (by omega)).2 hb)
  simpa using this
/-- A small Alloc within the budget: a span more only where all are full. -/
theorem alloc_small {H : HS} (hW : H.Wf) {x S : Nat} (h1 : 1 ≤ x) (hx : x ≤ 64) (hb : (H.blk (classOf x)).length < S * (64 / classOf x)) (hs : (H.spn (classOf x)).length ≤ S) (hf : (H.spn (classOf x)).length < S → ∃ f, f < H.n ∧ H.cls f = 0) :
    ∃ a H', H.alloc x = some (a, H') ∧ Adds H H' a (roomOf x) ∧ (H'.spn (classOf x)).length ≤ S ∧ a % 64 + classOf x ≤ 64 ∧ (a / 64 ∈ H.spn (classOf x) ∨ ((H.spn (classOf x)).length < S ∧ a / 64 < H.n ∧ ∀ j, j < a / 64 → H.cls j ≠ 0)) := by
  have hc := (cl_classOf x hx).1
  have hp := cl_pos hc
  have ha : H.alloc x = H.allocSmall (classOf x) := by
    unfold alloc
    rw [if_neg (by omega), if_neg (by omega), Int.toNat_natCast]
  generalize hcc : classOf x = c at *
  have hplace : ∀ k s, k < 64 / c → (64 * s + k * c) / 64 = s ∧ (64 * s + k * c) % 64 + c ≤ 64 := fun k s hk => by
    have h1 := cl_div hc hk
    generalize k * c = y at *
    omega
  cases hr : first (H.hasRoom c) H.n with
  | some s =>
    have e : H.alloc x = some (H.placeAt s c, H.place s c) := by rw [ha]; unfold allocSmall; rw [hr]
    have hadd := (hW.alloc_adds e).2.2
    rw [Int.toNat_natCast] at hadd
    have hs1 := first_some.1 hr
    have h2 := hs1.2.1
    unfold hasRoom at h2
    simp only [Bool.and_eq_true, decide_eq_true_eq] at h2
    have huc := hW.uc s hs1.1 (by omega)
    rw [h2.1, Int.toNat_natCast] at huc
    have hlz := lz_spec huc.2 h2.2 (by omega)
    have hpl := hplace _ s hlz.1
    refine ⟨_, _, e, hadd, hs, ?_, .inl ?_⟩
    · unfold placeAt; exact hpl.2
    · unfold placeAt; rw [hpl.1]; exact mem_spn.2 ⟨hs1.1, h2.1⟩
  | none =>
    have hfull := full_blocks hW hc fun s hsn hcs => by
      have := (first_none.1 hr) s hsn
      unfold hasRoom at this
      simp [hcs] at this
      exact this
    have hlt : (H.spn c).length < S := Nat.lt_of_mul_lt_mul_right (Nat.lt_of_le_of_lt hfull hb)
    obtain ⟨f, hfn, hf0⟩ := hf hlt
    cases hi : first H.isFree H.n with
    | none =>
      have := (first_none.1 hi) f hfn
      unfold isFree at this
      simp [hf0] at this
    | some g =>
      have e : H.alloc x = some (H.placeAt g c, { H with cls := setf H.cls g c }.place g c) := by rw [ha]; unfold allocSmall; rw [hr, hi]
      have hadd := (hW.alloc_adds e).2.2
      rw [Int.toNat_natCast] at hadd
      have hg := first_some.1 hi
      have hg0 : H.cls g = 0 := of_decide_eq_true hg.2.1
      have hu := hW.un g hg.1 (by omega)
      have hpl := hplace 0 g (by omega)
      have hat : H.placeAt g c = 64 * g + 0 * c := by unfold placeAt; rw [hu, lz_zero]
      refine ⟨_, _, e, hadd, ?_, ?_, .inr ⟨hlt, ?_⟩⟩
      · have := nodup_length_le (l := ({ H with cls := setf H.cls g c }.place g c).spn c) (m := g :: H.spn c) (spn_nodup _ c) fun s hsm => by
          obtain ⟨h1, h2⟩ := mem_spn.1 hsm
          by_cases es : s = g
          · rw [es]; simp
          · refine List.mem_cons_of_mem _ (mem_spn.2 ⟨h1, ?_⟩)
            have h3 : setf H.cls g (c : Int) s = (c : Int) := h2
            rwa [setf_ne _ _ es] at h3
        simp at this
        omega
      · rw [hat]; exact hpl.2
      · rw [hat, hpl.1]
        refine ⟨hg.1, fun j hj h0 => ?_⟩
        have := hg.2.2 j hj
        unfold isFree at this
        simp [h0] at this
/-- The spans of runs. -/
def rsp (H : HS) : List Nat := (List.range H.n).filter fun s => decide (1 ≤ s ∧ (H.cls s = -1 ∨ H.cls s = -2))
/-- While the spans taken are few, one is free. -/
theorem free_span {H : HS} (hW : H.Wf) (h : 1 + H.rsp.length + (H.spn 2).length + (H.spn 4).length + (H.spn 8).length + (H.spn 16).length + (H.spn 32).length + (H.spn 64).length < H.n) : ∃ f, f < H.n ∧ H.cls f = 0 := by
  apply Classical.byContradiction
  intro hno
  have := nodup_length_le (l := List.range H.n) (m := 0 :: (H.rsp ++ (H.spn 2 ++ (H.spn 4 ++ (H.spn 8 ++ (H.spn 16 ++ (H.spn 32 ++ H.spn 64))))))) List.nodup_range fun s hs => by
    rw [List.mem_range] at hs
    have hk := hW.kind s hs
    by_cases h0 : s = 0
    · rw [h0]; simp
    · refine List.mem_cons_of_mem _ ?_
      simp only [List.mem_append, mem_spn]
      rcases hk with h1 | h1 | h1 | h1
      · exact absurd ⟨s, hs, h1⟩ hno
      · exact .inl (List.mem_filter.2 ⟨List.mem_range.2 hs, by simp [h1]; omega⟩)
      · exact .inl (List.mem_filter.2 ⟨List.mem_range.2 hs, by simp [h1]; omega⟩)
      · right
        unfold Cl at h1
        rcases h1 with h1 | h1 | h1 | h1 | h1 | h1 <;> simp [hs, h1]
  simp at this
  omega
theorem mem_rsp {H : HS} {s : Nat} : s ∈ H.rsp ↔ s < H.n ∧ 1 ≤ s ∧ (H.cls s = -1 ∨ H.cls s = -2) := by
  unfold rsp; rw [List.mem_filter, List.mem_range]; simp
/-- No new run: no more spans of runs. -/
theorem rsp_less {H H' : HS} (hW : H.Wf) (hW' : H'.Wf) (hn : H'.n = H.n) (hr : ∀ a, 64 < H'.room a → H.room a = H'.room a) : H'.rsp.length ≤ H.rsp.length := by
  have run : ∀ f, f < H'.n → H'.cls f = -1 → H.cls f = -1 ∧ H.runs f = H'.runs f := by
    intro f hf hc
    have h1 := room_long hf hc
    have h2 := (hW'.lg f hf hc).2.1
    have h3 := hr (64 * f) (by omega)
    rw [h1] at h3
    have hf' : f < H.n := by omega
    unfold room at h3
    rw [if_neg (by omega)] at h3
    have e : 64 * f / 64 = f := by omega
    rw [e] at h3
    split at h3
    · rename_i h4; exact ⟨h4.1, by omega⟩
    · split at h3
      · rename_i h4
        have hk := hW.kind f hf'
        unfold Cl at hk
        omega
      · omega
  refine nodup_length_le (List.Pairwise.filter _ List.nodup_range) fun s hs => ?_
  obtain ⟨h1, h2, h3⟩ := mem_rsp.1 hs
  refine mem_rsp.2 ⟨by omega, h2, ?_⟩
  rcases h3 with h3 | h3
  · exact .inl (run s h1 h3).1
  · obtain ⟨f, f1, f2, f3, f4⟩ := hW'.mo s h1 h2 h3
    obtain ⟨r1, r2⟩ := run f (by omega) f3
    exact .inr ((hW.lg f (by omega) r1).2.2.2 s f2 (by omega))
/-- The first free span is low. -/
theorem first_low {H : HS} (hW : H.Wf) {f : Nat} (hf : f < H.n) (hlow : ∀ j, j < f → H.cls j ≠ 0) : f ≤ 1 + H.rsp.length + (H.spn 2).length + (H.spn 4).length + (H.spn 8).length + (H.spn 16).length + (H.spn 32).length + (H.spn 64).length := by
  have := nodup_length_le (l := List.range f) (m := 0 :: (H.rsp ++ (H.spn 2 ++ (H.spn 4 ++ (H.spn 8 ++ (H.spn 16 ++ (H.spn 32 ++ H.spn 64))))))) List.nodup_range fun s hs => by
    rw [List.mem_range] at hs
    have hs' : s < H.n := by omega
    have hk := hW.kind s hs'
    by_cases h0 : s = 0
    · rw [h0]; simp
    · refine List.mem_cons_of_mem _ ?_
      simp only [List.mem_append, mem_spn]
      rcases hk with h1 | h1 | h1 | h1
      · exact absurd h1 (hlow s hs)
      · exact .inl (mem_rsp.2 ⟨hs', by omega, .inl h1⟩)
      · exact .inl (mem_rsp.2 ⟨hs', by omega, .inr h1⟩)
      · right
        unfold Cl at h1
        rcases h1 with h1 | h1 | h1 | h1 | h1 | h1 <;> simp [hs', h1]
  simp at this
  omega
end HS
end Go.Proofs.Ytnbiofcfphpikaa

namespace Go.Proofs.Ytnbiofcfphpikaa
namespace HS
theorem first_congr {p q : Nat → Bool} : ∀ {n : Nat}, (∀ j, j < n → p j = q j) → first p n = first q n
  | 0, _ => rfl
  | n + 1, h => by
    unfold first
    rw [first_congr (fun j hj => h j (by omega)), h n (by omega)]
variable {H H' : HS}
theorem same_run (hW : H.Wf) (hW' : H'.Wf) (hn : H'.n = H.n) (hr : ∀ a, H'.room a = H.room a) {f : Nat} (hf : f < H'.n) (hc : H'.cls f = -1) : H.cls f = -1 ∧ H.runs f = H'.runs f := by
  have h1 := room_long hf hc
  have h2 := (hW'.lg f hf hc).2.1
  rw [hr] at h1
  have hf' : f < H.n := by omega
  unfold room at h1
  rw [if_neg (by omega)] at h1
  have e : 64 * f / 64 = f := by omega
  rw [e] at h1
  split at h1
  · rename_i h4; exact ⟨h4.1, by omega⟩
  · split at h1
    · rename_i h4
      have hk := hW.kind f hf'
      unfold Cl at hk
      omega
    · omega
theorem same_class (hW : H.Wf) (hW' : H'.Wf) (hn : H'.n = H.n) (hr : ∀ a, H'.room a = H.room a) {s c : Nat} (hs : s < H.n) (hc : Cl (c : Int)) (h : H.cls s = (c : Int)) : H'.cls s = (c : Int) ∧ H'.used s = H.used s := by
  have hp := cl_pos hc
  obtain ⟨a, ha, rfl⟩ := block_of_span hW hc (mem_spn.2 ⟨hs, h⟩)
  have h2 := (mem_spn.1 (span_of_block hW' hc ((hr a).trans ha))).2
  refine ⟨h2, ?_⟩
  have u1 := hW.uc _ hs (by omega)
  have u2 := hW'.uc _ (by omega : a / 64 < H'.n) (by omega)
  rw [h, Int.toNat_natCast] at u1
  rw [h2, Int.toNat_natCast] at u2
  apply Nat.eq_of_testBit_eq
  intro k
  by_cases hk : k < 64 / c
  · have r1 := room_class hs h hc hk
    have r2 := room_class (H := H') (by omega : a / 64 < H'.n) h2 hc hk
    rw [hr, r1] at r2
    cases b1 : (H.used (a / 64)).testBit k <;> cases b2 : (H'.used (a / 64)).testBit k <;> simp [b1, b2] at r2 ⊢ <;> omega
  · have hge : (2 : Nat) ^ (64 / c) ≤ 2 ^ k := Nat.pow_le_pow_right (by omega) (by omega)
    rw [Nat.testBit_lt_two_pow (Nat.lt_of_lt_of_le u1.2 hge), Nat.testBit_lt_two_pow (Nat.lt_of_lt_of_le u2.2 hge)]
theorem same_free (hW : H.Wf) (hW' : H'.Wf) (hn : H'.n = H.n) (hr : ∀ a, H'.room a = H.room a) {s : Nat} (hs : s < H.n) (h : H.cls s = 0) : H'.cls s = 0 := by
  rcases hW'.kind s (by omega) with h1 | h1 | h1 | h1
  · exact h1
  · have := (same_run hW hW' hn hr (by omega) h1).1; omega
  · by_cases h0 : s = 0
    · subst h0; have := hW.c0; omega
    · obtain ⟨f, f1, f2, f3, f4⟩ := hW'.mo s (by omega) (by omega) h1
      obtain ⟨r1, r2⟩ := same_run hW hW' hn hr (by omega) f3
      have := (hW.lg f (by omega) r1).2.2.2 s f2 (by omega)
      omega
  · obtain ⟨c, hc, hcl⟩ := cl_nat h1
    have := (same_class hW' hW hn.symm (fun a => (hr a).symm) (by omega) hcl hc).1
    have := cl_pos hcl
    omega
theorem same_cons {c c' : Nat → Int} : ∀ {k : Nat}, (∀ j, j < k → (c j = 0 ↔ c' j = 0)) → cons c k = cons c' k
  | 0, _ => rfl
  | k + 1, h => by
    unfold cons
    rw [same_cons (fun j hj => h j (by omega))]
    have := h k (by omega)
    by_cases e : c k = 0
    · rw [if_pos e, if_pos (this.1 e)]
    · rw [if_neg e, if_neg (fun e' => e (this.2 e'))]
theorem alloc_same (hW : H.Wf) (hW' : H'.Wf) (hn : H'.n = H.n) (hr : ∀ a, H'.room a = H.room a) (x : Int) : (H'.alloc x).map Prod.fst = (H.alloc x).map Prod.fst := by
  have hz : ∀ s, s < H.n → (H'.cls s = 0 ↔ H.cls s = 0) := fun s hs => ⟨fun h => same_free hW' hW hn.symm (fun a => (hr a).symm) (by omega) h, fun h => same_free hW hW' hn hr hs h⟩
  unfold alloc
  by_cases h1 : x < 1 ∨ 16448 < x
  · rw [if_pos h1, if_pos h1]
  · rw [if_neg h1, if_neg h1]
    by_cases h2 : 64 < x
    · rw [if_pos h2, if_pos h2]
      generalize (x.toNat + 63) / 64 = m
      unfold allocRun
      rw [hn, first_congr (p := fun s => decide (cons H'.cls (s + 1) = m)) (q := fun s => decide (cons H.cls (s + 1) = m)) (fun s hs => by rw [same_cons (fun j hj => hz j (by omega))])]
      split <;> rfl
    · rw [if_neg h2, if_neg h2]
      have hc := (cl_classOf x.toNat (by omega)).1
      generalize classOf x.toNat = c at *
      have hp := cl_pos hc
      have hroom : ∀ s, s < H.n → H'.hasRoom c s = H.hasRoom c s := fun s hs => by
        unfold hasRoom
        by_cases e : H.cls s = (c : Int)
        · have := same_class hW hW' hn hr hs hc e
          rw [this.1, this.2, e]
        · have e' : H'.cls s ≠ (c : Int) := fun h => e (same_class hW' hW hn.symm (fun a => (hr a).symm) (by omega) hc h).1
          rw [decide_eq_false e, decide_eq_false e']
          rfl
      unfold allocSmall
      rw [hn, first_congr hroom]
      cases hf : first (H.hasRoom c) H.n with
      | some s =>
        have hs := first_some.1 hf
        have h3 := hs.2.1
        unfold hasRoom at h3
        simp only [Bool.and_eq_true, decide_eq_true_eq] at h3
        show some (H'.placeAt s c) = some (H.placeAt s c)
        unfold placeAt
        rw [(same_class hW hW' hn hr hs.1 hc h3.1).2]
      | none =>
        have hfr : ∀ s, s < H.n → H'.isFree s = H.isFree s := fun s hs => by
          unfold isFree
          have := hz s hs
          by_cases e : H.cls s = 0
          · rw [decide_eq_true e, decide_eq_true (this.2 e)]
          · rw [decide_eq_false e, decide_eq_false (fun h => e (this.1 h))]
        rw [first_congr hfr]
        cases hg : first H.isFree H.n with
        | some f =>
          have hs := first_some.1 hg
          have h3 : H.cls f = 0 := of_decide_eq_true hs.2.1
          show some (H'.placeAt f c) = some (H.placeAt f c)
          unfold placeAt
          rw [hW.un f hs.1 (by omega), hW'.un f (by omega) (by have := (hz f hs.1).2 h3; omega)]
        | none => rfl
theorem same_cf {c c' : Nat → Int} : ∀ {k : Nat}, (∀ j, j < k → (c j = 0 ↔ c' j = 0)) → cf c k = cf c' k
  | 0, _ => rfl
  | k + 1, h => by
    unfold cf
    rw [same_cf (fun j hj => h j (by omega))]
    have := h k (by omega)
    by_cases e : c k = 0
    · rw [if_pos e, if_pos (this.1 e)]
    · rw [if_neg e, if_neg (fun e' => e (this.2 e'))]
/-- As many free spans. -/
theorem spans_same (hW : H.Wf) (hW' : H'.Wf) (hn : H'.n = H.n) (hr : ∀ a, H'.room a = H.room a) : H'.spans = H.spans := by
  have hz : ∀ s, s < H.n → (H'.cls s = 0 ↔ H.cls s = 0) := fun s hs => ⟨fun h => same_free hW' hW hn.symm (fun a => (hr a).symm) (by omega) h, fun h => same_free hW hW' hn hr hs h⟩
  unfold spans
  rw [hn]
  exact same_cf hz
end HS
end Go.Proofs.Ytnbiofcfphpikaa

namespace Go.Proofs.Ytnbiofcfphpikaa
open Go.RowKit

/-- May word k of a block with this header be a reference? -/
def mayD (kd sz ms : Int) (k : Nat) : Bool := decide ((k : Int) < sz) && mayRef kd ms k

set_option maxRecDepth 100000 in
set_option maxHeartbeats 4000000 in
theorem may7_calls (w : World) (a kd sz ms : Int) (wa : Option Addr) (wl wc k : Nat) (hk : k ≤ 2000000) (hm : (k : Int) < sz → 0 ≤ ms ∧ ms < 65536) :
    Calls Try.prog 92 #[.agg #[.int .i64 a, .int .i64 kd, .int .i64 sz, .int .i64 ms, .slice wa wl wc], .int .i64 k] w fun e w' => e = .returned (.bool (mayD kd sz ms k)) ∧ Keeps (fun _ => False) w w' := by
  unfold mayD
  by_cases hs : (k : Int) < sz
  · obtain ⟨hm0, hm1⟩ := hm hs
    clear hm
    have ds : decide ((k : Int) < sz) = true := decide_eq_true hs
    have ds2 : decide (sz ≤ (k : Int)) = false := decide_eq_false (by omega)
    rw [ds, Bool.true_and]
    clear hs ds
    unfold mayRef
    by_cases h2 : kd = 2
    · subst h2
      rw [if_pos rfl]
      go_enter Try.func92, Try.ntmps92
      go_wp2
      go_ret
      exact ⟨rfl, (Keeps.refl _ w).alloc _⟩
    · rw [if_neg h2]
      by_cases h3 : kd = 3
      · subst h3
        rw [if_pos rfl]
        go_enter Try.func92, Try.ntmps92
        go_wp2
        go_ret
        exact ⟨rfl, (Keeps.refl _ w).alloc _⟩
      · rw [if_neg h3]
        by_cases h4 : kd = 4
        · subst h4
          rw [if_pos rfl]
          have HE : Hid (decide (ms / 2 ^ k % 2 = 1) = (decide (k < 16) && decide (ms / 2 ^ k % 2 = 1))) := by
            show _ = _
            by_cases h16 : k < 16
            · rw [decide_eq_true h16, Bool.true_and]
            · have h : ms / 2 ^ k = 0 := by
                apply Int.ediv_eq_zero_of_lt hm0
                have h1 : (2 : Nat) ^ 16 ≤ 2 ^ k := Nat.pow_le_pow_right (by omega) (by omega)
                have h2 : ((2 : Int) ^ k) = (((2 : Nat) ^ k : Nat) : Int) := by push_cast; rfl
                rw [h2]
                omega
              rw [h, decide_eq_false h16]
              rfl
          rw [← HE.out]
          clear HE
          have HK : Hid (Keeps (fun _ => False) w (w.alloc (.cells #[.int .i64 a, .int .i64 4, .int .i64 sz, .int .i64 ms, .slice wa wl wc] 99))) := (Keeps.refl _ w).alloc _
          have HB0 : Hid (ms / 2 ^ 0 = ms) := by show _ = _; rw [Int.pow_zero, Int.ediv_one]
          go_enter Try.func92, Try.ntmps92
          go_wp2
          go_loopw [5, 6] (fun b i wr => ∃ j : Nat, j ≤ k ∧ i = .int .i64 j ∧ b = .int .i64 (ms / 2 ^ j) ∧ Hid (Keeps (fun _ => False) w wr)) (fun _ i _ => k - (intOf i).toNat)
          case atStart => exact ⟨0, Nat.zero_le _, rfl, by rw [HB0.out], HK⟩
          case round =>
            clear HB0 HK
            obtain ⟨j, hj, rfl, rfl, hKw⟩ := hrel
            have hp : (0 : Int) < 2 ^ j := Int.pow_pos (by omega)
            have hb0 : 0 ≤ ms / 2 ^ j := Int.ediv_nonneg hm0 (by omega)
            have hb1 : ms / 2 ^ j ≤ ms := Int.ediv_le_self _ hm0
            have HS : Hid (ms / 2 ^ j / 2 = ms / 2 ^ (j + 1)) := by
              show _ = _
              rw [Int.ediv_ediv_of_nonneg (by omega), ← Int.pow_succ]
            by_cases hlt : j < k
            · have dj : decide (j < k) = true := decide_eq_true hlt
              generalize ms / 2 ^ j = b at *
              have hb3 : b / 2 ≤ 65536 := by omega
              have hb4 : 0 ≤ b / 2 := by omega
              have hb5 : b ≤ 65536 := by omega
              clear hp hb1
              go_wp2
              go_roundw
              case rel => exact ⟨j + 1, by omega, by go_num, by first | rw [← HS.out] | (rw [← HS.out]; rfl), hKw⟩
              case measure => simp [intOf]; omega
            · obtain rfl : j = k := by omega
              have dj : decide (j < j) = false := by simp
              generalize hb : ms / 2 ^ j = b at *
              have HBB := Lib.hid hb
              clear hb
              have hb5 : b ≤ 65536 := by omega
              have hb6 : 0 ≤ b % 2 := by omega
              have hb7 : b % 2 < 2 := by omega
              clear hp hb1 HS
              go_wp2
              go_ret
              exact ⟨by rw [HBB.out]; rfl, hKw.out⟩
        · rw [if_neg h4]
          have b2 : (kd == 2) = false := beq_eq_false_iff_ne.2 h2
          have b3 : (kd == 3) = false := beq_eq_false_iff_ne.2 h3
          have b4 : (kd == 4) = false := beq_eq_false_iff_ne.2 h4
          clear h2 h3 h4
          go_enter Try.func92, Try.ntmps92
          go_wp2
          go_ret
          exact ⟨rfl, (Keeps.refl _ w).alloc _⟩
  · have ds : decide ((k : Int) < sz) = false := decide_eq_false hs
    have ds2 : decide (sz ≤ (k : Int)) = true := decide_eq_true (by omega)
    rw [ds, Bool.false_and]
    clear hs ds hm
    go_enter Try.func92, Try.ntmps92
    go_wp2
    go_ret
    exact ⟨rfl, (Keeps.refl _ w).alloc _⟩

set_option maxRecDepth 100000 in
set_option maxHeartbeats 4000000 in
theorem in7_calls {w0 w : World} {R : Nat → Prop} {rb : Nat} {H : HS} (h : RefA w0 w R rb H) (hW : H.Wf) (x : Int) :
    Calls Try.prog 93 #[.pointer (some ⟨rb, 0, none⟩), .int .i64 x] w fun e w' => e = .returned (.bool (H.isRef x)) ∧ ∃ q, w' = w.drewN q := by
  have HF := Lib.hid (h.rfind hW x)
  by_cases hx0 : x = 0
  · have hr : H.isRef x = false := by
      cases he : H.isRef x with
      | false => rfl
      | true => have := HS.isRef_pos hW he; omega
    rw [hr]
    subst hx0
    clear hr
    go_enter Try.func93, Try.ntmps93
    go_wp2
    go_ret
    exact ⟨rfl, 0, rfl⟩
  · have n0 : (x != 0) = true := by simp [hx0]
    have n0' : decide (x = 0) = false := decide_eq_false hx0
    by_cases hx2 : x % 2 = 0
    · have e2 : x.tmod 2 = 0 := by
        rw [Int.tmod_eq_emod]
        simp [hx2]
        omega
      by_cases hr : H.roomI x = 0
      · have hi : H.isRef x = false := by unfold HS.isRef; rw [decide_eq_false]; simp [hr]
        rw [hi]
        clear hi hx0
        go_enter Try.func93, Try.ntmps93
        go_wp2_with fail
        refine HF.out.mono ?_
        rintro e w' ⟨⟨i, rfl, h1, h2⟩, q, rfl⟩
        have hi1 : i = -1 := h1 hr
        subst hi1
        clear h1 h2
        go_wp2
        go_ret
        exact ⟨rfl, q, rfl⟩
      · have hi : H.isRef x = true := by unfold HS.isRef; exact decide_eq_true hr
        rw [hi]
        clear hi hx0
        go_enter Try.func93, Try.ntmps93
        go_wp2_with fail
        refine HF.out.mono ?_
        rintro e w' ⟨⟨i, rfl, h1, h2⟩, q, rfl⟩
        have hi1 := h2 hr
        have d0 : decide ((0 : Int) ≤ i) = true := decide_eq_true hi1.1
        clear h1 h2 hi1
        go_wp2
        go_ret
        exact ⟨rfl, q, rfl⟩
    · have hr : H.isRef x = false := by
        cases he : H.isRef x with
        | false => rfl
        | true => have := HS.isRef_pos hW he; omega
      rw [hr]
      have e2 : ¬ x.tmod 2 = 0 := by
        intro h
        have := Int.dvd_of_tmod_eq_zero h
        omega
      have e3 : (x.tmod 2 == 0) = false := beq_eq_false_iff_ne.2 e2
      have e4 : decide (x.tmod 2 = 0) = false := decide_eq_false e2
      clear hr hx0 hx2
      go_enter Try.func93, Try.ntmps93
      go_wp2
      go_ret
      exact ⟨rfl, 0, rfl⟩

set_option maxRecDepth 100000 in
set_option maxHeartbeats 4000000 in
theorem has7_calls (w : World) (a : Option Addr) (c : Nat) (l : List Int) (x : Int) (hA : Arg w a l.length (fun i => .int .i64 (l.getD i 0))) (hl : l.length ≤ 1000000000) :
    Calls Try.prog 89 #[.slice a l.length c, .int .i64 x] w fun e w' => e = .returned (.bool (decide (x ∈ l))) ∧ w' = w := by
  have HA := Lib.hid hA
  clear hA
  go_enter Try.func89, Try.ntmps89
  go_wp2
  go_loopw [5] (fun i wr => ∃ k : Nat, k ≤ l.length ∧ i = .int .i64 k ∧ wr = w ∧ Hid (x ∉ l.take k)) (fun i _ => l.length - (intOf i).toNat)
  case atStart => exact ⟨0, Nat.zero_le _, rfl, rfl, by show _ ∉ _; simp⟩
  case round =>
    obtain ⟨k, hk, rfl, rfl, hx⟩ := hrel
    by_cases hlt : k < l.length
    · have dk : decide (k < l.length) = true := decide_eq_true hlt
      obtain ⟨b1, o1, rfl, e1⟩ := HA.out.get hlt
      have HG : Hid (l[k]? = some (l.getD k 0)) := by show _ = _; rw [List.getD_eq_getElem?_getD, List.getElem?_eq_getElem hlt]; rfl
      generalize l.getD k 0 = y at *
      by_cases hxy : y = x
      · have b : (y == x) = true := beq_iff_eq.2 hxy
        have hr : decide (x ∈ l) = true := decide_eq_true (by rw [← hxy]; exact List.mem_of_getElem? HG.out)
        have HRR := Lib.hid hr
        clear hr hxy
        go_wp2
        go_ret
        exact ⟨by rw [HRR.out]; rfl, rfl⟩
      · have b : (y == x) = false := beq_eq_false_iff_ne.2 hxy
        have HN : Hid (x ∉ l.take (k + 1)) := by
          show _ ∉ _
          rw [List.take_add_one, HG.out]
          simp
          exact ⟨hx.out, fun h => hxy h.symm⟩
        clear hxy
        go_wp2
        go_roundw
        case rel => exact ⟨k + 1, by omega, by go_num, by first | rfl | trivial, HN⟩
        case measure => simp [intOf]; omega
    · obtain rfl : k = l.length := by omega
      have dk : decide (l.length < l.length) = false := by simp
      have hr : decide (x ∈ l) = false := decide_eq_false (by have := hx.out; rwa [List.take_length] at this)
      have HRR := Lib.hid hr
      clear hr hx
      go_wp2
      go_ret
      exact ⟨by rw [HRR.out]; rfl, rfl⟩

/-- What the document's Children gathers. -/
def kidsD (H : HS) (kd sz ms : Int) (W : Nat → Int) : Nat → List Int
  | 0 => []
  | k + 1 => kidsD H kd sz ms W k ++ (if mayD kd sz ms k = true ∧ H.isRef (W k) = true then [W k] else [])
theorem kidsD_length (H : HS) (kd sz ms : Int) (W : Nat → Int) : ∀ k, (kidsD H kd sz ms W k).length ≤ k
  | 0 => by simp [kidsD]
  | k + 1 => by
    have := kidsD_length H kd sz ms W k
    rw [kidsD, List.length_append]
    split <;> simp <;> omega
theorem Gather.back {w w1 wr : World} {v : Value} {l : List Int} (h : Gather w1 wr v l) (hk : Keeps (fun _ => False) w w1) : Gather w wr v l :=
  ⟨h.ints, hk.trans h.keeps (fun _ _ h => h), fun g hg => Nat.le_trans hk.size (h.fresh g hg)⟩

theorem Gather.keep {w wr wx : World} {v : Value} {l : List Int} (h : Gather w wr v l) (hk : Keeps (fun _ => False) wr wx) : Gather w wx v l := ⟨h.ints.keep hk (fun _ _ h => h), h.keeps.trans hk (fun _ _ h => h), h.fresh⟩

set_option maxRecDepth 100000 in
set_option maxHeartbeats 4000000 in
theorem children7_calls {w0 w : World} {R : Nat → Prop} {rb : Nat} {H : HS} (h : RefA w0 w R rb H) (hW : H.Wf) (a kd sz ms : Int) (g n c : Nat) (W : Nat → Int) (hA : Arg w (some ⟨g, 0, none⟩) n (fun t => .int .i64 (W t))) (hn : n ≤ 2000000)
    (hm : ∀ k : Nat, (k : Int) < sz → 0 ≤ ms ∧ ms < 65536) :
    Calls Try.prog 90 #[.pointer (some ⟨rb, 0, none⟩), .agg #[.int .i64 a, .int .i64 kd, .int .i64 sz, .int .i64 ms, .slice (some ⟨g, 0, none⟩) n c]] w fun e w' => ∃ v, e = .returned v ∧ Hid (Gather w w' v (kidsD H kd sz ms W n)) := by
  obtain ⟨i0, hi, hz0, hz1, hz2⟩ := info_parts Try.info_int
  have HA := Lib.hid hA
  have HR := Lib.hid h
  have HW := Lib.hid hW
  have HMY := Lib.hid (fun w (k : Nat) (hk : k ≤ 2000000) => may7_calls w a kd sz ms (some ⟨g, 0, none⟩) n c k hk (hm k))
  have HBX : Hid (∀ j, (w.alloc (.cells #[.int .i64 a, .int .i64 kd, .int .i64 sz, .int .i64 ms, .slice (some ⟨g, 0, none⟩) n c] 99)).cell? ⟨w.heap.size, j, none⟩ = #[.int .i64 a, .int .i64 kd, .int .i64 sz, .int .i64 ms, Value.slice (some ⟨g, 0, none⟩) n c][j]?) := fun j => World.cell?_alloc_new w _ _ j
  have HK1 : Hid (Keeps (fun _ => False) w (w.alloc (.cells #[.int .i64 a, .int .i64 kd, .int .i64 sz, .int .i64 ms, .slice (some ⟨g, 0, none⟩) n c] 99))) := (Keeps.refl _ w).alloc _
  have HST : Hid (Gather (w.alloc (.cells #[.int .i64 a, .int .i64 kd, .int .i64 sz, .int .i64 ms, .slice (some ⟨g, 0, none⟩) n c] 99)) (w.alloc (.cells #[.int .i64 a, .int .i64 kd, .int .i64 sz, .int .i64 ms, .slice (some ⟨g, 0, none⟩) n c] 99)) (.slice none 0 0) (kidsD H kd sz ms W 0)) := Gather.start _
  clear hA h hW hm
  go_enter Try.func90, Try.ntmps90
  go_wp2
  generalize (w.alloc (.cells #[.int .i64 a, .int .i64 kd, .int .i64 sz, .int .i64 ms, .slice (some ⟨g, 0, none⟩) n c] 99)) = w1 at *
  generalize w.heap.size = p at *
  go_loopw [5, 6] (fun v i wr => ∃ k : Nat, k ≤ n ∧ i = .int .i64 k ∧ Hid (Gather w1 wr v (kidsD H kd sz ms W k))) (fun _ i _ => n - (intOf i).toNat)
  case atStart => exact ⟨0, Nat.zero_le _, rfl, HST⟩
  case round =>
    clear HST
    obtain ⟨k, hk, rfl, hG⟩ := hrel
    have b0 := hG.out.keeps.cell0 (HBX.out 0)
    have b1 := hG.out.keeps.cell0 (HBX.out 1)
    have b2 := hG.out.keeps.cell0 (HBX.out 2)
    have b3 := hG.out.keeps.cell0 (HBX.out 3)
    have b4 := hG.out.keeps.cell0 (HBX.out 4)
    by_cases hlt : k < n
    · have dk : decide (k < n) = true := decide_eq_true hlt
      have hll := kidsD_length H kd sz ms W k
      obtain ⟨g', o', e', hwc⟩ := ((HA.out.keep HK1.out).keep hG.out.keeps).get hlt
      cases e'
      rw [Nat.zero_add] at hwc
      have HCA : Hid (∀ wx, Keeps (fun _ => False) wr wx → wx.cell? ⟨p, 4, none⟩ = some (.slice (some ⟨g, 0, none⟩) n c) ∧ wx.cell? ⟨g, k, none⟩ = some (.int .i64 (W k))) := fun wx hk => ⟨hk.cell0 b4, hk.cell0 hwc⟩
      have HIN : Hid (∀ wx, Keeps (fun _ => False) wr wx → Calls Try.prog 93 #[.pointer (some ⟨rb, 0, none⟩), .int .i64 (W k)] wx fun e w' => e = .returned (.bool (H.isRef (W k))) ∧ ∃ q, w' = wx.drewN q) := fun wx hk => in7_calls (((HR.out.keep0 HK1.out).keep0 hG.out.keeps).keep0 hk) HW.out (W k)
      have HSN : Hid (kidsD H kd sz ms W (k + 1) = kidsD H kd sz ms W k ++ (if mayD kd sz ms k = true ∧ H.isRef (W k) = true then [W k] else [])) := rfl
      have HM1 := Lib.hid (HMY.out wr k (by omega))
      generalize kidsD H kd sz ms W k = l at *
      generalize W k = x at *
      cases hb1 : mayD kd sz ms k with
      | false =>
        rw [hb1, if_neg (by simp)] at HSN
        rw [hb1] at HM1
        clear hb1 HIN
        go_wp2_with fail
        refine HM1.out.mono ?_
        rintro e w2 ⟨rfl, hk2⟩
        have HG : Hid (Gather w1 w2 u5 l) := hG.out.keep hk2
        clear hk2 hG
        go_wp2
        go_roundw
        case rel => exact ⟨k + 1, by omega, by go_num, by rw [HSN.out, List.append_nil]; exact HG⟩
        case measure => simp [intOf]; omega
      | true =>
        rw [hb1] at HM1 HSN
        clear hb1
        cases hb2 : H.isRef x with
        | false =>
          rw [hb2, if_neg (by simp)] at HSN
          rw [hb2] at HIN
          clear hb2
          go_wp2_with fail
          refine HM1.out.mono ?_
          rintro e w2 ⟨rfl, hk2⟩
          have HG : Hid (Gather w1 w2 u5 l) := hG.out.keep hk2
          have q4 := (HCA.out w2 hk2).1
          have qx := (HCA.out w2 hk2).2
          have HI2 := Lib.hid (HIN.out w2 hk2)
          clear hk2 hG HIN HM1 b0 b1 b2 b3 b4 hwc
          go_wp2_with fail
          refine HI2.out.mono ?_
          rintro e w3 ⟨rfl, q, rfl⟩
          have HG3 : Hid (Gather w1 (w2.drewN q) u5 l) := HG.out.drewN q
          clear HG HI2
          go_wp2
          go_roundw
          case rel => exact ⟨k + 1, by omega, by go_num, by rw [HSN.out, List.append_nil]; exact HG3⟩
          case measure => simp [intOf]; omega
        | true =>
          rw [hb2, if_pos (by simp)] at HSN
          rw [hb2] at HIN
          clear hb2
          go_wp2_with fail
          refine HM1.out.mono ?_
          rintro e w2 ⟨rfl, hk2⟩
          have HG : Hid (Gather w1 w2 u5 l) := hG.out.keep hk2
          have q4 := (HCA.out w2 hk2).1
          have qx := (HCA.out w2 hk2).2
          have HI2 := Lib.hid (HIN.out w2 hk2)
          clear hk2 hG HIN HM1 b0 b1 b2 b3 b4 hwc
          go_wp2_with fail
          refine HI2.out.mono ?_
          rintro e w3 ⟨rfl, q, rfl⟩
          have HG3 : Hid (Gather w1 (w2.drewN q) u5 l) := HG.out.drewN q
          replace q4 : (w2.drewN q).cell? ⟨p, 4, none⟩ = some (.slice (some ⟨g, 0, none⟩) n c) := q4
          replace qx : (w2.drewN q).cell? ⟨g, k, none⟩ = some (.int .i64 x) := qx
          clear HG HI2
          generalize w2.drewN q = w3 at *
          go_wp2_with (at_builtin; refine wpList_app1 _ rfl _ _ 22 rfl 3 i0 (.int .i64 0) 8 Try.underlying_ints hi hz0 hz1 hz2 rfl (by decide) _ l.length _ rfl (HG3.out.ints.alloc _) _ 1 (.int .i64 x) rfl (by simp) rfl (by omega) ?_; intro ga cap w4 hO3 hK3 hg3)
          have HG4 := Lib.hid (HG3.out.snoc hO3 hK3 hg3)
          clear hO3 hK3 hg3 HG3
          go_wp2
          go_roundw
          case rel => exact ⟨k + 1, by omega, by go_num, by rw [HSN.out]; exact HG4⟩
          case measure => simp [intOf]; omega
    · obtain rfl : k = n := by omega
      have dk : decide (k < k) = false := by simp
      have HF : Hid (Gather w wr u5 (kidsD H kd sz ms W k)) := hG.out.back HK1.out
      clear hG
      go_wp2
      go_ret
      exact ⟨_, rfl, HF⟩

namespace Rc7
/-- How many of the first n are not marked. -/
def unm (M : Nat → Bool) : Nat → Nat
  | 0 => 0
  | n + 1 => unm M n + (if M n = true then 0 else 1)
theorem unm_same {M M' : Nat → Bool} : ∀ {n : Nat}, (∀ i, i < n → M' i = M i) → unm M' n = unm M n
  | 0, _ => rfl
  | n + 1, h => by unfold unm; rw [unm_same (fun i hi => h i (by omega)), h n (by omega)]
theorem unm_set {M : Nat → Bool} {i : Nat} (hM : M i = false) : ∀ {n : Nat}, i < n → unm (setf M i true) n + 1 = unm M n
  | 0, h => by omega
  | n + 1, h => by
    unfold unm
    by_cases e : i = n
    · subst e
      rw [setf_same, hM, unm_same (fun j hj => setf_ne _ _ (by omega))]
      simp
    · rw [setf_ne _ _ (Ne.symm e)]
      have := unm_set hM (n := n) (by omega)
      omega

section
variable (A : Nat → Int) (F : List Int) (K : Nat → List Int)
/-- Block i is a root, or a child of one of the first n that is marked. -/
def hit (M : Nat → Bool) (i n : Nat) : Prop := A i ∈ F ∨ ∃ k, k < n ∧ M k = true ∧ A i ∈ K k
structure Out (L : Int → Prop) (m : Nat) (M : Nat → Bool) (b : Bool) : Prop where
  sound : ∀ i, i < m → M i = true → L (A i)
  closed : b = false → ∀ i, i < m → M i = false → ¬ hit A F K M i m
structure Mid (L : Int → Prop) (m i u : Nat) (M : Nat → Bool) (b : Bool) : Prop where
  sound : ∀ i, i < m → M i = true → L (A i)
  some_ : b = true → unm M m < u
  none_ : b = false → unm M m = u ∧ ∀ j, j < i → M j = false → ¬ hit A F K M j m
end
section
variable {A : Nat → Int} {F : List Int} {K : Nat → List Int} {L : Int → Prop} {m i u : Nat} {M : Nat → Bool} {b : Bool}
theorem Out.start : Out A F K L m (fun _ => false) true := ⟨fun _ _ h => (nomatch h), fun h => (nomatch h)⟩
theorem Out.mid (h : Out A F K L m M b) : Mid A F K L m 0 (unm M m) M false := ⟨h.sound, fun h => (nomatch h), fun _ => ⟨rfl, fun j hj => by omega⟩⟩
theorem Mid.out (h : Mid A F K L m m u M b) : Out A F K L m M b ∧ 2 * unm M m + b.toNat < 2 * u + 1 := by
  refine ⟨⟨h.sound, fun e j hj => (h.none_ e).2 j hj⟩, ?_⟩
  cases b with
  | true => have := h.some_ rfl; simp; omega
  | false => have := (h.none_ rfl).1; simp; omega
/-- It was marked before. -/
theorem Mid.skip (h : Mid A F K L m i u M b) (hM : M i = true) : Mid A F K L m (i + 1) u M b :=
  ⟨h.sound, h.some_, fun e => ⟨(h.none_ e).1, fun j hj hj2 => by
    by_cases e2 : j = i
    · rw [e2, hM] at hj2; cases hj2
    · exact (h.none_ e).2 j (by omega) hj2⟩⟩
theorem Mid.no (h : Mid A F K L m i u M b) (hn : ¬ hit A F K M i m) : Mid A F K L m (i + 1) u M b :=
  ⟨h.sound, h.some_, fun e => ⟨(h.none_ e).1, fun j hj hj2 => by
    by_cases e2 : j = i
    · rw [e2]; exact hn
    · exact (h.none_ e).2 j (by omega) hj2⟩⟩
theorem Mid.yes (h : Mid A F K L m i u M b) (hi : i < m) (hM : M i = false) (hL : L (A i)) : Mid A F K L m (i + 1) u (setf M i true) true := by
  have hu := unm_set hM hi
  refine ⟨fun j hj hj2 => ?_, fun _ => ?_, fun e => (nomatch e)⟩
  · by_cases e : j = i
    · rw [e]; exact hL
    · rw [setf_ne _ _ e] at hj2; exact h.sound j hj hj2
  · cases b with
    | true => have := h.some_ rfl; omega
    | false => have := (h.none_ rfl).1; omega
theorem hit_mono {n : Nat} (h : hit A F K M i n) (hn : n ≤ m) : hit A F K M i m := by
  rcases h with h | ⟨k, hk, h1, h2⟩
  · exact .inl h
  · exact .inr ⟨k, by omega, h1, h2⟩
theorem hit_succ {n : Nat} (h : ¬ hit A F K M i n) (h2 : ¬ (M n = true ∧ A i ∈ K n)) : ¬ hit A F K M i (n + 1) := by
  rintro (h1 | ⟨k, hk, h3, h4⟩)
  · exact h (.inl h1)
  · by_cases e : k = n
    · subst e; exact h2 ⟨h3, h4⟩
    · exact h (.inr ⟨k, by omega, h3, h4⟩)
end
theorem und_bools : Try.prog.underlying 68 = some (.slice 4) := by kernel_rfl
theorem info_bool : (Try.prog.info? 4).map (fun i => (i.zero, i.size, i.bytes)) = some (some (.bool false), 1, 1) := by kernel_rfl
theorem make_bools (n : Nat) (hn : n ≤ 1048576) : ∃ Z : Array Value, (Z.size = n ∧ ∀ i, i < n → Z[i]? = some (.bool false)) ∧
    ∀ W : World, (Instr.makeSlice 68 (.int .i64 n) (.int .i64 n)).run Try.prog W = .ok (.slice (some ⟨W.heap.size, 0, none⟩) n n) (W.alloc (.cells Z 4)) := by
  obtain ⟨i, hi, hz0, hz1, hz2⟩ := info_parts info_bool
  refine ⟨madeCells (Value.bool false).cells n, ⟨size_madeCells _ _, fun i hi => ?_⟩, fun W => ?_⟩
  · have h := toList_madeCells_one (Value.bool false) n
    rw [show (Value.bool false).cells = #[Value.bool false] from rfl, ← Array.getElem?_toList, h]
    simp [hi]
  · have := run_make (P := Try.prog) W 68 4 i (.bool false) und_bools hi hz0 .i64 .i64 n n (by omega) (by omega) (by rw [hz2]; omega) (by omega)
    rw [hz1] at this
    simpa using this

/-- The marks, as the loops keep them. -/
structure Mk (w wr : World) (p m : Nat) (M : Nat → Bool) : Prop where
  own : Own wr 4 (.slice (some ⟨p, 0, none⟩) m m) m (fun i => .bool (M i))
  keeps : Keeps (fun _ => False) w wr
  new : w.heap.size ≤ p
theorem Mk.keep {w wr wx : World} {p m : Nat} {M : Nat → Bool} (h : Mk w wr p m M) (hk : Keeps (fun _ => False) wr wx) : Mk w wx p m M :=
  ⟨h.own.keep hk (fun _ _ h => h), h.keeps.trans hk (fun _ _ h => h), h.new⟩
theorem Mk.cell {w wr : World} {p m : Nat} {M : Nat → Bool} (h : Mk w wr p m M) {i : Nat} (hi : i < m) : wr.cell? ⟨p, i, none⟩ = some (.bool (M i)) ∧ wr.frozen? ⟨p, i, none⟩ = false := by
  obtain ⟨b', cap', e, -, -, hc, hf⟩ := h.own.some_shape (by omega)
  cases e
  exact ⟨hc i hi, hf i⟩
theorem Mk.set {w wr : World} {p m : Nat} {M : Nat → Bool} (h : Mk w wr p m M) {i : Nat} (hi : i < m) : Mk w (wr.setCell ⟨p, i, none⟩ (.bool true)) p m (setf M i true) := by
  refine ⟨(h.own.set hi (.bool true)).congr fun j hj => ?_, h.keeps.trans ((Keeps.refl (fun b => b = p) wr).setCell (p := ⟨p, i, none⟩) (fun _ => rfl) _) (fun b hb e => by have := h.new; omega), h.new⟩
  by_cases e : j = i
  · subst e; rw [setf_same, setf_same]
  · rw [setf_ne _ _ e, setf_ne _ _ e]

set_option maxRecDepth 100000 in
set_option maxHeartbeats 8000000 in
theorem reached12_calls {w : World} {rb m : Nat} {al : Option Addr} {cl : Nat} (Ad : Nat → Nat) (Kd Sz Ms : Nat → Int) (Wl : Nat → Nat) (Ks : Nat → List Int) (Lv : Int → Prop) (hm40 : m ≤ 1000) (F : List Int) (af : Option Addr) (cf : Nat)
    (hA : Arg w af F.length (fun i => .int .i64 (F.getD i 0))) (hFl : F.length ≤ 1000) (hKL : ∀ i, i < m → (Ks i).length ≤ 1048576) (hRT : ∀ i, i < m → (Ad i : Int) ∈ F → Lv (Ad i)) (hST : ∀ j k, j < m → k < m → Lv (Ad j) → (Ad k : Int) ∈ Ks j → Lv (Ad k))
    (hOUT : ∀ M, Out (fun i => (Ad i : Int)) F (fun i => Ks i) Lv m M false → ∀ i, i < m → (M i = true ↔ Lv (Ad i)))
    (hCL : ∀ wx, Keeps (fun _ => False) w wx → ∀ i, i < m → ∃ b g, al = some ⟨b, 0, none⟩ ∧ wx.cell? ⟨b, i * 5, none⟩ = some (.int .i64 (Ad i : Nat)) ∧ wx.cell? ⟨b, i * 5 + 1, none⟩ = some (.int .i64 (Kd i)) ∧ wx.cell? ⟨b, i * 5 + 2, none⟩ = some (.int .i64 (Sz i)) ∧ wx.cell? ⟨b, i * 5 + 3, none⟩ = some (.int .i64 (Ms i)) ∧ wx.cell? ⟨b, i * 5 + 4, none⟩ = some (.slice (some ⟨g, 0, none⟩) (Wl i) (Wl i)) ∧
      Hid (∀ wy, Keeps (fun _ => False) w wy → Calls Try.prog 90 #[.pointer (some ⟨rb, 0, none⟩), .agg #[.int .i64 (Ad i : Nat), .int .i64 (Kd i), .int .i64 (Sz i), .int .i64 (Ms i), .slice (some ⟨g, 0, none⟩) (Wl i) (Wl i)]] wy fun e w' => ∃ a c, e = .returned (.slice a (Ks i).length c) ∧ Hid (Made wy w' a (Ks i)))) :
    Calls Try.prog 81 #[.pointer (some ⟨rb, 0, none⟩), .slice al m cl, .slice af F.length cf] w fun e w' => ∃ p M, e = .returned (.slice (some ⟨p, 0, none⟩) m m) ∧ Hid (Mk w w' p m M ∧ ∀ i, i < m → (M i = true ↔ Lv (Ad i))) := by
  obtain ⟨Z, hZ, mk⟩ := make_bools m (by omega)
  have HAF := Lib.hid hA
  have HOUT := Lib.hid hOUT
  have HLV : Hid (∀ (M : Nat → Bool) k, k < m → (∀ i, i < m → M i = true → Lv (Ad i)) → hit (fun i => (Ad i : Int)) F (fun i => Ks i) M k m → Lv (Ad k)) := fun M k hk hs h => by
    rcases h with h | ⟨j, hj, h1, h2⟩
    · exact hRT k hk h
    · exact hST j k hj hk (hs j hj h1) h2
  have HKL := Lib.hid hKL
  have HCL := Lib.hid hCL
  have HMK : Hid (Mk w (w.alloc (.cells Z 4)) w.heap.size m (fun _ => false) ∧ Out (fun i => (Ad i : Int)) F (fun i => Ks i) (Lv) m (fun _ => false) true) :=
    ⟨⟨.inr ⟨_, m, Z, rfl, heap_alloc_new w _, Nat.le_refl _, by unfold maxLen; omega, hZ.1, hZ.2⟩, (Keeps.refl _ w).alloc _, Nat.le_refl _⟩, Out.start⟩
  have hFl2 : F.length ≤ 1000000000 := by omega
  clear hA hKL hRT hST hOUT hCL
  go_enter Try.func81, Try.ntmps81
  go_wp2
  clear mk hZ
  generalize hp : w.heap.size = p at *
  have HPP := Lib.hid hp
  clear hp
  go_loopw [8] (fun bv wr => ∃ M b, bv = .bool b ∧ Hid (Mk w wr p m M ∧ Out (fun i => (Ad i : Int)) F (fun i => Ks i) (Lv) m M b)) (fun bv wr => Least (fun n => ∃ M b, bv = .bool b ∧ Hid (Mk w wr p m M ∧ Out (fun i => (Ad i : Int)) F (fun i => Ks i) (Lv) m M b) ∧ 2 * unm M m + b.toNat = n))
  case atStart => exact ⟨_, true, rfl, HMK⟩
  case round =>
    clear HMK
    obtain ⟨M, b, rfl, hR, hms⟩ := least_spec (p := fun n => ∃ M b, u8 = .bool b ∧ Hid (Mk w wr p m M ∧ Out (fun i => (Ad i : Int)) F (fun i => Ks i) (Lv) m M b) ∧ 2 * unm M m + b.toNat = n) (by obtain ⟨M, b, e, h⟩ := hrel; exact ⟨_, M, b, e, h, rfl⟩)
    clear hrel
    have HMS := Lib.hid hms
    clear hms
    cases b with
    | false =>
      have HF : Hid (Mk w wr p m M ∧ ∀ i, i < m → (M i = true ↔ Lv (Ad i))) := ⟨hR.out.1, HOUT.out M hR.out.2⟩
      clear hR HOUT
      go_wp2
      go_ret
      exact ⟨p, M, rfl, HF⟩
    | true =>
      have HST : Hid (Mk w wr p m M ∧ Mid (fun i => (Ad i : Int)) F (fun i => Ks i) (Lv) m 0 (unm M m) M false) := ⟨hR.out.1, hR.out.2.mid⟩
      obtain ⟨u, hu⟩ : ∃ u, u = unm M m := ⟨_, rfl⟩
      rw [← hu] at HST
      have HMS2 : Hid (∀ (M' : Nat → Bool) (b' : Bool), 2 * unm M' m + b'.toNat < 2 * u + 1 → 2 * unm M' m + b'.toNat < Least fun n => ∃ M b_1, Value.bool true = .bool b_1 ∧ Hid (Mk w wr p m M ∧ Out (fun i => (Ad i : Int)) F (fun i => Ks i) (Lv) m M b_1) ∧ 2 * unm M m + b_1.toNat = n) := fun M' b' h => by
        rw [← HMS.out]
        show _ < 2 * unm M m + 1
        rw [← hu]
        exact h
      clear hR HMS hu
      obtain ⟨wo, rfl⟩ : ∃ wo : World, wo = wr := ⟨_, rfl⟩
      go_wp2
      go_loopw [8, 9] (fun bv i wr => ∃ (k : Nat) (M' : Nat → Bool) (b' : Bool), k ≤ m ∧ i = .int .i64 k ∧ bv = .bool b' ∧ Hid (Mk w wr p m M' ∧ Mid (fun i => (Ad i : Int)) F (fun i => Ks i) (Lv) m k u M' b')) (fun _ i _ => m - (intOf i).toNat)
      case atStart => exact ⟨0, _, false, Nat.zero_le _, rfl, rfl, HST⟩
      case round =>
        clear HST
        obtain ⟨k, M', b', hk, rfl, rfl, hR⟩ := hrel
        by_cases hlt : k < m
        · have dk : decide (k < m) = true := decide_eq_true hlt
          have hpk := (hR.out.1.cell hlt).1
          have hpf := (hR.out.1.cell hlt).2
          cases hMk : M' k with
          | true =>
            rw [hMk] at hpk
            have HN : Hid (Mk w wr p m M' ∧ Mid (fun i => (Ad i : Int)) F (fun i => Ks i) (Lv) m (k + 1) u M' b') := ⟨hR.out.1, hR.out.2.skip hMk⟩
            clear hR hMk hpf
            go_wp2
            go_roundw
            case rel => exact ⟨k + 1, M', b', by omega, by go_num, rfl, HN⟩
            case measure => simp [intOf]; omega
          | false =>
            rw [hMk] at hpk
            obtain ⟨lb, gk, rfl, c0, -, -, -, -, -⟩ := HCL.out wr hR.out.1.keeps k hlt
            have HHA := Lib.hid (fun wx (hk : Keeps (fun _ => False) w wx) => has7_calls wx af cf F (Ad k : Nat) (HAF.out.keep hk) hFl2)
            have HH1 := Lib.hid (HHA.out wr hR.out.1.keeps)
            have HC0 : Hid (wr.cell? ⟨lb, k * 5, none⟩ = some (.int .i64 (Ad k : Nat))) := c0
            have HM0 := Lib.hid hMk
            clear hMk HHA
            go_wp2_with fail
            refine HH1.out.mono ?_
            rintro e w5 ⟨rfl, rfl⟩
            obtain ⟨h0, hh0⟩ : ∃ h0, h0 = decide ((Ad k : Int) ∈ F) := ⟨_, rfl⟩
            have HI0 : Hid ((h0 = true → hit (fun i => (Ad i : Int)) F (fun i => Ks i) M' k m) ∧ (h0 = false → ¬ hit (fun i => (Ad i : Int)) F (fun i => Ks i) M' k 0)) := by
              rw [hh0]
              exact ⟨fun h => .inl (of_decide_eq_true h), fun h => by rintro (h' | ⟨j, hj, _⟩); exact of_decide_eq_false h h'; omega⟩
            rw [← hh0]
            clear hh0 HH1
            have HK0 : Hid (Keeps (fun _ => False) w5 w5) := Keeps.refl _ _
            clear hpk hpf c0
            go_wp2
            go_loopw [10, 11] (fun hv j wr => ∃ (t : Nat) (h : Bool), t ≤ m ∧ j = .int .i64 t ∧ hv = .bool h ∧ Hid (Keeps (fun _ => False) w5 wr) ∧ Hid ((h = true → hit (fun i => (Ad i : Int)) F (fun i => Ks i) M' k m) ∧ (h = false → ¬ hit (fun i => (Ad i : Int)) F (fun i => Ks i) M' k t))) (fun _ j _ => m - (intOf j).toNat)
            case atStart => exact ⟨0, h0, Nat.zero_le _, rfl, rfl, HK0, HI0⟩
            case round =>
              clear HK0 HI0
              obtain ⟨t, h, ht, rfl, rfl, hK, hI⟩ := hrel
              cases h with
              | true =>
                have hpk := ((hR.out.1.keep hK.out).cell hlt).1
                have hpf := ((hR.out.1.keep hK.out).cell hlt).2
                have HNM : Hid (Mk w (wr.setCell ⟨p, k, none⟩ (.bool true)) p m (setf M' k true) ∧ Mid (fun i => (Ad i : Int)) F (fun i => Ks i) (Lv) m (k + 1) u (setf M' k true) true) := ⟨(hR.out.1.keep hK.out).set hlt, hR.out.2.yes hlt HM0.out (HLV.out M' k hlt hR.out.2.sound (hI.out.1 rfl))⟩
                clear hR hI
                by_cases htm : t < m
                · have dt : decide (t < m) = true := decide_eq_true htm
                  go_wp2
                  go_roundw
                  case rel => exact ⟨k + 1, _, true, by omega, by go_num, rfl, HNM⟩
                  case measure => simp [intOf]; omega
                · have dt : decide (t < m) = false := decide_eq_false htm
                  go_wp2
                  go_roundw
                  case rel => exact ⟨k + 1, _, true, by omega, by go_num, rfl, HNM⟩
                  case measure => simp [intOf]; omega
              | false =>
                by_cases htm : t < m
                · have dt : decide (t < m) = true := decide_eq_true htm
                  have hpt := ((hR.out.1.keep hK.out).cell htm).1
                  have HN := Lib.hid (fun h2 => hit_succ (hI.out.2 rfl) h2)
                  have HY : Hid (M' t = true → (Ad k : Int) ∈ Ks t → hit (fun i => (Ad i : Int)) F (fun i => Ks i) M' k m) := fun h1 h2 => .inr ⟨t, htm, h1, h2⟩
                  cases hMt : M' t with
                  | false =>
                    rw [hMt] at hpt
                    have HI2 : Hid ((false = true → hit (fun i => (Ad i : Int)) F (fun i => Ks i) M' k m) ∧ (false = false → ¬ hit (fun i => (Ad i : Int)) F (fun i => Ks i) M' k (t + 1))) := ⟨fun h => (nomatch h), fun _ => HN.out (fun h => by rw [hMt] at h; exact (nomatch h.1))⟩
                    have hs0 : wr.cell? ⟨p, t, none⟩ = some (.bool false) := hpt
                    have HKD : Hid (Keeps (fun _ => False) w5 wr) := hK
                    clear hMt HN HY hI hpt hR
                    go_wp2_with fail
                    go_quiet ((fail))
                    have HKQ : Hid (Keeps (fun _ => False) w5 (wr.drewN nq)) := HKD.out.drewN nq
                    go_wp2
                    exact ⟨⟨t + 1, false, by omega, by go_num, rfl, HKQ, by first | exact HI2 | exact ⟨HI2.out.1, fun _ => HI2.out.2 trivial⟩ | exact ⟨HI2.out.1, fun _ => HI2.out.2 rfl⟩⟩, by simp only [intOf]; omega⟩
                  | true =>
                    have hp5 := (hR.out.1.cell htm).1
                    rw [hMt] at hp5
                    obtain ⟨lb', gt, e', d0, d1, d2, d3, d4, HCH⟩ := HCL.out w5 hR.out.1.keeps t htm
                    cases e'
                    have HK5 := Lib.hid hR.out.1.keeps
                    have HKT := Lib.hid (HKL.out t htm)
                    have HI3 : Hid ((decide ((Ad k : Int) ∈ Ks t) = true → hit (fun i => (Ad i : Int)) F (fun i => Ks i) M' k m) ∧ (decide ((Ad k : Int) ∈ Ks t) = false → ¬ hit (fun i => (Ad i : Int)) F (fun i => Ks i) M' k (t + 1))) := ⟨fun h => HY.out hMt (of_decide_eq_true h), fun h => HN.out (fun h2 => of_decide_eq_false h h2.2)⟩
                    have hc5 := HC0.out
                    clear hMt HN HY hI hpt
                    generalize Ks t = KT at *
                    generalize hat : ((Ad t : Nat) : Int) = at_ at *
                    have HAT := Lib.hid hat
                    clear hat
                    generalize Kd t = kt at *
                    generalize Sz t = st at *
                    generalize Ms t = mt at *
                    generalize Wl t = nt at *
                    generalize hak : ((Ad k : Nat) : Int) = ak at *
                    have HAK := Lib.hid hak
                    clear hak
                    have HSS : Hid (∀ wx, Keeps (fun _ => False) w5 wx → wx.cell? ⟨p, t, none⟩ = some (.bool true) ∧ wx.cell? ⟨lb, t * 5, none⟩ = some (.int .i64 at_) ∧ wx.cell? ⟨lb, t * 5 + 1, none⟩ = some (.int .i64 kt) ∧ wx.cell? ⟨lb, t * 5 + 2, none⟩ = some (.int .i64 st) ∧ wx.cell? ⟨lb, t * 5 + 3, none⟩ = some (.int .i64 mt) ∧ wx.cell? ⟨lb, t * 5 + 4, none⟩ = some (.slice (some ⟨gt, 0, none⟩) nt nt) ∧ wx.cell? ⟨lb, k * 5, none⟩ = some (.int .i64 ak)) := fun wx hk => ⟨hk.cell0 hp5, hk.cell0 d0, hk.cell0 d1, hk.cell0 d2, hk.cell0 d3, hk.cell0 d4, hk.cell0 hc5⟩
                    have hS0 : wr.drew.cell? ⟨p, t, none⟩ = some (.bool true) ∧ wr.drew.cell? ⟨lb, t * 5, none⟩ = some (.int .i64 at_) ∧ wr.drew.cell? ⟨lb, t * 5 + 1, none⟩ = some (.int .i64 kt) ∧ wr.drew.cell? ⟨lb, t * 5 + 2, none⟩ = some (.int .i64 st) ∧ wr.drew.cell? ⟨lb, t * 5 + 3, none⟩ = some (.int .i64 mt) ∧ wr.drew.cell? ⟨lb, t * 5 + 4, none⟩ = some (.slice (some ⟨gt, 0, none⟩) nt nt) ∧ wr.drew.cell? ⟨lb, k * 5, none⟩ = some (.int .i64 ak) := HSS.out wr.drew hK.out.drew
                    have HP0 : Hid (Keeps (fun _ => False) w5 wr.drew) := hK.out.drew
                    have HCC : Hid (∀ wx, Hid (Keeps (fun _ => False) w5 wx) → Calls Try.prog 90 #[.pointer (some ⟨rb, 0, none⟩), .agg #[.int .i64 at_, .int .i64 kt, .int .i64 st, .int .i64 mt, .slice (some ⟨gt, 0, none⟩) nt nt]] wx fun e w' => ∃ a c, e = .returned (.slice a KT.length c) ∧ (w'.cell? ⟨p, t, none⟩ = some (.bool true) ∧ w'.cell? ⟨lb, t * 5, none⟩ = some (.int .i64 at_) ∧ w'.cell? ⟨lb, t * 5 + 1, none⟩ = some (.int .i64 kt) ∧ w'.cell? ⟨lb, t * 5 + 2, none⟩ = some (.int .i64 st) ∧ w'.cell? ⟨lb, t * 5 + 3, none⟩ = some (.int .i64 mt) ∧ w'.cell? ⟨lb, t * 5 + 4, none⟩ = some (.slice (some ⟨gt, 0, none⟩) nt nt) ∧ w'.cell? ⟨lb, k * 5, none⟩ = some (.int .i64 ak)) ∧ Hid (Keeps (fun _ => False) w5 w') ∧ Hid (Arg w' a KT.length (fun i => .int .i64 (KT.getD i 0)))) := by
                      intro wx hk
                      refine (HCH.out wx (HK5.out.trans hk.out (fun _ _ h => h))).mono ?_
                      rintro e w' ⟨a, c, rfl, hm⟩
                      have hk' := hk.out.trans hm.out.keeps (fun _ _ h => h)
                      exact ⟨a, c, rfl, HSS.out _ hk', hk', hm.out.arg⟩
                    have HHS : Hid (∀ wx a c, Hid (Arg wx a KT.length (fun i => .int .i64 (KT.getD i 0))) → Calls Try.prog 89 #[.slice a KT.length c, .int .i64 ak] wx fun e w' => e = .returned (.bool (decide (ak ∈ KT))) ∧ w' = wx) := fun wx a c h => has7_calls wx a c KT ak h.out (by have := HKT.out; omega)
                    clear hp5 d0 d1 d2 d3 d4 hc5 hR HCH HSS
                    go_wp2_with fail
                    go_region_held3 (fun w' => w'.cell? ⟨p, t, none⟩ = some (.bool true) ∧ w'.cell? ⟨lb, t * 5, none⟩ = some (.int .i64 at_) ∧ w'.cell? ⟨lb, t * 5 + 1, none⟩ = some (.int .i64 kt) ∧ w'.cell? ⟨lb, t * 5 + 2, none⟩ = some (.int .i64 st) ∧ w'.cell? ⟨lb, t * 5 + 3, none⟩ = some (.int .i64 mt) ∧ w'.cell? ⟨lb, t * 5 + 4, none⟩ = some (.slice (some ⟨gt, 0, none⟩) nt nt) ∧ w'.cell? ⟨lb, k * 5, none⟩ = some (.int .i64 ak)) (first | exact hS0 | assumption | (refine ⟨?_, ?_, ?_, ?_, ?_, ?_, ?_⟩ <;> assumption))
                      (first | (go_at_call 90; refine (HCC.out _ (by first | assumption | exact HP0)).mono ?_; rintro e w' ⟨a1, c1, rfl, hs, hp1, ha1⟩) | (go_at_call 89; refine (HHS.out _ _ _ (by assumption)).mono ?_; rintro e w' ⟨rfl, rfl⟩))
                    all_goals go_wp2
                    all_goals exact ⟨⟨t + 1, decide (ak ∈ KT), by omega, by go_num, rfl, by assumption, HI3⟩, by simp only [intOf]; omega⟩
                · obtain rfl : t = m := by omega
                  have dt : decide (t < t) = false := by simp
                  have HN : Hid (Mk w wr p t M' ∧ Mid (fun i => (Ad i : Int)) F (fun i => Ks i) (Lv) t (k + 1) u M' b') := ⟨hR.out.1.keep hK.out, hR.out.2.no (hI.out.2 rfl)⟩
                  clear hR hI
                  go_wp2
                  go_roundw
                  case rel => exact ⟨k + 1, M', b', by omega, by go_num, rfl, HN⟩
                  case measure => simp [intOf]; omega
        · obtain rfl : k = m := by omega
          have dk : decide (k < k) = false := by simp
          have HO := Lib.hid hR.out.2.out
          have HK := Lib.hid hR.out.1
          clear hR
          go_wp2
          go_roundw
          case rel => exact ⟨M', b', rfl, HK.out, HO.out.1⟩
          case measure => exact Nat.lt_of_le_of_lt (least_le ⟨M', b', rfl, ⟨HK.out, HO.out.1⟩, rfl⟩) (HMS2.out M' b' HO.out.2)
end Rc7
end Go.Proofs.Ytnbiofcfphpikaa
