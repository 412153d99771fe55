/-
  How many spans each class takes, by how many blocks it has (for ListKeeps).
-/
import Derived.Test.YtnbiofcfphpikaaSorted
namespace Go.Proofs.Ytnbiofcfphpikaa
namespace HS

/-- The spans of a class; its blocks. -/
def spn (H : HS) (c : Nat) : List Nat := (List.range H.n).filter fun s => decide (H.cls s = (c : Int))
def blk (H : HS) (c : Nat) : List Nat := H.blocks.filter fun a => decide (H.room a = c)
theorem mem_spn {H : HS} {c s : Nat} : s ∈ H.spn c ↔ s < H.n ∧ H.cls s = (c : Int) := by
  unfold spn; rw [List.mem_filter, List.mem_range]; simp
theorem spn_nodup (H : HS) (c : Nat) : (H.spn c).Nodup := List.Pairwise.filter _ List.nodup_range
theorem mem_blk {H : HS} (hW : H.Wf) {c a : Nat} (hc : c ≠ 0) : a ∈ H.blk c ↔ H.room a = c := by
  unfold blk; rw [List.mem_filter, hW.mem_blocks]; simp; intro h; omega
theorem blk_nodup (H : HS) (c : Nat) : (H.blk c).Nodup := List.Pairwise.filter _ H.blocks_nodup
/-- If no span of the class has room, all are full. -/
theorem full_blocks {H : HS} (hW : H.Wf) {c : Nat} (hc : Cl (c : Int)) (h : ∀ s, s < H.n → H.cls s = (c : Int) → H.used s = full c) : (H.spn c).length * (64 / c) ≤ (H.blk c).length := by
  have hp := cl_pos hc
  generalize hm : 64 / c = m at *
  have hin : ∀ i, i < (H.spn c).length * m → i / m < (H.spn c).length := fun i hi => Nat.div_lt_of_lt_mul (by rw [Nat.mul_comm]; exact hi)
  have hsp : ∀ i, i < (H.spn c).length → (H.spn c).getD i 0 < H.n ∧ H.cls ((H.spn c).getD i 0) = (c : Int) := fun i hi => by
    rw [List.getD_eq_getElem?_getD, List.getElem?_eq_getElem hi]
    exact mem_spn.1 (List.getElem_mem hi)
  have hlen := nodup_length_le (l := (List.range ((H.spn c).length * m)).map fun i => 64 * (H.spn c).getD (i / m) 0 + i % m * c) (m := H.blk c) (by
    rw [List.nodup_iff_pairwise_ne, List.pairwise_map]
    refine List.Pairwise.imp_of_mem ?_ (List.nodup_iff_pairwise_ne.1 (List.nodup_range (n := (H.spn c).length * m)))
    intro i j hi hj hne e
    rw [List.mem_range] at hi hj
    have hmi : i % m < 64 / c := by rw [hm]; exact Nat.mod_lt _ (by omega)
    have hmj : j % m < 64 / c := by rw [hm]; exact Nat.mod_lt _ (by omega)
    have h1 := cl_at (s := (H.spn c).getD (i / m) 0) hc hmi
    have h2 := cl_at (s := (H.spn c).getD (j / m) 0) hc hmj
    rw [e] at h1
    have e1 : (H.spn c).getD (i / m) 0 = (H.spn c).getD (j / m) 0 := h1.1.symm.trans h2.1
    have e2 : i % m = j % m := h1.2.2.symm.trans h2.2.2
    have e3 : i / m = j / m := by
      have hi' := hin i hi
      have hj' := hin j hj
      rw [List.getD_eq_getElem?_getD, List.getElem?_eq_getElem hi', List.getD_eq_getElem?_getD, List.getElem?_eq_getElem hj'] at e1
      have hpw := List.pairwise_iff_getElem.1 (List.nodup_iff_pairwise_ne.1 (H.spn_nodup c))
      rcases Nat.lt_trichotomy (i / m) (j / m) with h | h | h
      · exact absurd e1 (hpw _ _ hi' hj' h)
      · exact h
      · exact absurd e1.symm (hpw _ _ hj' hi' h)
    apply hne
    rw [← Nat.div_add_mod i m, ← Nat.div_add_mod j m, e2, e3]) (fun a ha => by
    rw [List.mem_map] at ha
    obtain ⟨i, hi, rfl⟩ := ha
    rw [List.mem_range] at hi
    have hs := hsp _ (hin i hi)
    have hmi : i % m < 64 / c := by rw [hm]; exact Nat.mod_lt _ (by omega)
    rw [mem_blk hW (by omega), room_class hs.1 hs.2 hc hmi, h _ hs.1 hs.2]
    unfold full
    rw [Nat.testBit_two_pow_sub_one, decide_eq_true hmi]
    simp)
  simpa using hlen
/-- A block of a class lies in a span of the class. -/
theorem span_of_block {H : HS} (hW : H.Wf) {c a : Nat} (hc : Cl (c : Int)) (h : H.room a = c) : a / 64 ∈ H.spn c := by
  have hp := cl_pos hc
  have hin := hW.inside (a := a) (by omega)
  have hlt : a / 64 < H.n := by omega
  refine mem_spn.2 ⟨hlt, ?_⟩
  unfold room at h
  rw [if_neg (by omega)] at h
  split at h
  · rename_i h2
    have := (hW.lg _ hlt h2.1).2.1
    omega
  · split at h
    · rename_i h2
      have := h2.1
      omega
    · omega
/-- .. and each span of a class has one. -/
theorem block_of_span {H : HS} (hW : H.Wf) {c s : Nat} (hc : Cl (c : Int)) (h : s ∈ H.spn c) : ∃ a, H.room a = c ∧ a / 64 = s := by
  have hp := cl_pos hc
  obtain ⟨hs, hcs⟩ := mem_spn.1 h
  have hu := hW.uc s hs (by rw [hcs]; omega)
  rw [hcs, Int.toNat_natCast] at hu
  obtain ⟨k, hk⟩ := Nat.exists_testBit_of_ne_zero hu.1
  have hkm : k < 64 / c := by
    apply Classical.byContradiction
    intro hge
    have h2 : (2 : Nat) ^ (64 / c) ≤ 2 ^ k := Nat.pow_le_pow_right (by omega) (by omega)
    rw [Nat.testBit_lt_two_pow (Nat.lt_of_lt_of_le hu.2 h2)] at hk
    cases hk
  refine ⟨64 * s + k * c, ?_, (cl_at hc hkm).1⟩
  rw [room_class hs hcs hc hkm, hk]
  simp
/-- Fewer blocks: fewer spans. -/
theorem less {H H' : HS} (hW : H.Wf) (hW' : H'.Wf) (hr : ∀ a, H'.room a = 0 ∨ H'.room a = H.room a) {c : Nat} (hc : Cl (c : Int)) : (H'.spn c).length ≤ (H.spn c).length ∧ (H'.blk c).length ≤ (H.blk c).length := by
  have hp := cl_pos hc
  refine ⟨nodup_length_le (H'.spn_nodup c) fun s hs => ?_, nodup_length_le (H'.blk_nodup c) fun a ha => ?_⟩
  · obtain ⟨a, h1, rfl⟩ := block_of_span hW' hc hs
    refine span_of_block hW hc ?_
    rcases hr a with e | e
    · omega
    · omega
  · rw [mem_blk hW' (by omega)] at ha
    rw [mem_blk hW (by omega)]
    rcases hr a with e | e
    · omega
    · omega
/-- One block more, of another class. -/
theorem adds_other {H H' : HS} (hW : H.Wf) {a r : Nat} (hA : Adds H H' a r) {c : Nat} (hc : Cl (c : Int)) (hne : r ≠ c) : (H'.spn c).length ≤ (H.spn c).length ∧ (H'.blk c).length ≤ (H.blk c).length := by
  have hp := cl_pos hc
  have key : ∀ b, H'.room b = c → H.room b = c := fun b hb => by
    have : b ≠ a := fun e => by rw [e, hA.is] at hb; omega
    rw [← hA.other b this]; exact hb
  refine ⟨nodup_length_le (H'.spn_nodup c) fun s hs => ?_, nodup_length_le (H'.blk_nodup c) fun b hb => ?_⟩
  · obtain ⟨b, h1, rfl⟩ := block_of_span hA.wf hc hs
    exact span_of_block hW hc (key b h1)
  · rw [mem_blk hA.wf (by omega)] at hb
    rw [mem_blk hW (by omega)]
    exact key b hb
/-- .. or of this one. -/
theorem adds_blk {H H' : HS} (hW : H.Wf) {a r : Nat} (hA : Adds H H' a r) {c : Nat} (hc : Cl (c : Int)) : (H'.blk c).length ≤ (H.blk c).length + 1 := by
  have hp := cl_pos hc
  have := nodup_length_le (l := H'.blk c) (m := a :: H.blk c) (H'.blk_nodup c) fun b hb => by
    rw [mem_blk hA.wf (by omega)] at hb
    by_cases e : b = a
    · rw [e]; simp
    · rw [hA.other b e] at hb
      exact List.mem_cons_of_mem _ ((mem_blk hW (by omega)).2 hb)
  simpa using this
/-- A small Alloc within the budget: a span more only where all are full. -/
theorem alloc_small {H : HS} (hW : H.Wf) {x S : Nat} (h1 : 1 ≤ x) (hx : x ≤ 64) (hb : (H.blk (classOf x)).length < S * (64 / classOf x)) (hs : (H.spn (classOf x)).length ≤ S) (hf : (H.spn (classOf x)).length < S → ∃ f, f < H.n ∧ H.cls f = 0) :
    ∃ a H', H.alloc x = some (a, H') ∧ Adds H H' a (roomOf x) ∧ (H'.spn (classOf x)).length ≤ S ∧ a % 64 + classOf x ≤ 64 ∧ (a / 64 ∈ H.spn (classOf x) ∨ ((H.spn (classOf x)).length < S ∧ a / 64 < H.n ∧ ∀ j, j < a / 64 → H.cls j ≠ 0)) := by
  have hc := (cl_classOf x hx).1
  have hp := cl_pos hc
  have ha : H.alloc x = H.allocSmall (classOf x) := by
    unfold alloc
    rw [if_neg (by omega), if_neg (by omega), Int.toNat_natCast]
  generalize hcc : classOf x = c at *
  have hplace : ∀ k s, k < 64 / c → (64 * s + k * c) / 64 = s ∧ (64 * s + k * c) % 64 + c ≤ 64 := fun k s hk => by
    have h1 := cl_div hc hk
    generalize k * c = y at *
    omega
  cases hr : first (H.hasRoom c) H.n with
  | some s =>
    have e : H.alloc x = some (H.placeAt s c, H.place s c) := by rw [ha]; unfold allocSmall; rw [hr]
    have hadd := (hW.alloc_adds e).2.2
    rw [Int.toNat_natCast] at hadd
    have hs1 := first_some.1 hr
    have h2 := hs1.2.1
    unfold hasRoom at h2
    simp only [Bool.and_eq_true, decide_eq_true_eq] at h2
    have huc := hW.uc s hs1.1 (by omega)
    rw [h2.1, Int.toNat_natCast] at huc
    have hlz := lz_spec huc.2 h2.2 (by omega)
    have hpl := hplace _ s hlz.1
    refine ⟨_, _, e, hadd, hs, ?_, .inl ?_⟩
    · unfold placeAt; exact hpl.2
    · unfold placeAt; rw [hpl.1]; exact mem_spn.2 ⟨hs1.1, h2.1⟩
  | none =>
    have hfull := full_blocks hW hc fun s hsn hcs => by
      have := (first_none.1 hr) s hsn
      unfold hasRoom at this
      simp [hcs] at this
      exact this
    have hlt : (H.spn c).length < S := Nat.lt_of_mul_lt_mul_right (Nat.lt_of_le_of_lt hfull hb)
    obtain ⟨f, hfn, hf0⟩ := hf hlt
    cases hi : first H.isFree H.n with
    | none =>
      have := (first_none.1 hi) f hfn
      unfold isFree at this
      simp [hf0] at this
    | some g =>
      have e : H.alloc x = some (H.placeAt g c, { H with cls := setf H.cls g c }.place g c) := by rw [ha]; unfold allocSmall; rw [hr, hi]
      have hadd := (hW.alloc_adds e).2.2
      rw [Int.toNat_natCast] at hadd
      have hg := first_some.1 hi
      have hg0 : H.cls g = 0 := of_decide_eq_true hg.2.1
      have hu := hW.un g hg.1 (by omega)
      have hpl := hplace 0 g (by omega)
      have hat : H.placeAt g c = 64 * g + 0 * c := by unfold placeAt; rw [hu, lz_zero]
      refine ⟨_, _, e, hadd, ?_, ?_, .inr ⟨hlt, ?_⟩⟩
      · have := nodup_length_le (l := ({ H with cls := setf H.cls g c }.place g c).spn c) (m := g :: H.spn c) (spn_nodup _ c) fun s hsm => by
          obtain ⟨h1, h2⟩ := mem_spn.1 hsm
          by_cases es : s = g
          · rw [es]; simp
          · refine List.mem_cons_of_mem _ (mem_spn.2 ⟨h1, ?_⟩)
            have h3 : setf H.cls g (c : Int) s = (c : Int) := h2
            rwa [setf_ne _ _ es] at h3
        simp at this
        omega
      · rw [hat]; exact hpl.2
      · rw [hat, hpl.1]
        refine ⟨hg.1, fun j hj h0 => ?_⟩
        have := hg.2.2 j hj
        unfold isFree at this
        simp [h0] at this
/-- The spans of runs. -/
def rsp (H : HS) : List Nat := (List.range H.n).filter fun s => decide (1 ≤ s ∧ (H.cls s = -1 ∨ H.cls s = -2))
/-- While the spans taken are few, one is free. -/
theorem free_span {H : HS} (hW : H.Wf) (h : 1 + H.rsp.length + (H.spn 2).length + (H.spn 4).length + (H.spn 8).length + (H.spn 16).length + (H.spn 32).length + (H.spn 64).length < H.n) : ∃ f, f < H.n ∧ H.cls f = 0 := by
  apply Classical.byContradiction
  intro hno
  have := nodup_length_le (l := List.range H.n) (m := 0 :: (H.rsp ++ (H.spn 2 ++ (H.spn 4 ++ (H.spn 8 ++ (H.spn 16 ++ (H.spn 32 ++ H.spn 64))))))) List.nodup_range fun s hs => by
    rw [List.mem_range] at hs
    have hk := hW.kind s hs
    by_cases h0 : s = 0
    · rw [h0]; simp
    · refine List.mem_cons_of_mem _ ?_
      simp only [List.mem_append, mem_spn]
      rcases hk with h1 | h1 | h1 | h1
      · exact absurd ⟨s, hs, h1⟩ hno
      · exact .inl (List.mem_filter.2 ⟨List.mem_range.2 hs, by simp [h1]; omega⟩)
      · exact .inl (List.mem_filter.2 ⟨List.mem_range.2 hs, by simp [h1]; omega⟩)
      · right
        unfold Cl at h1
        rcases h1 with h1 | h1 | h1 | h1 | h1 | h1 <;> simp [hs, h1]
  simp at this
  omega
theorem mem_rsp {H : HS} {s : Nat} : s ∈ H.rsp ↔ s < H.n ∧ 1 ≤ s ∧ (H.cls s = -1 ∨ H.cls s = -2) := by
  unfold rsp; rw [List.mem_filter, List.mem_range]; simp
/-- No new run: no more spans of runs. -/
theorem rsp_less {H H' : HS} (hW : H.Wf) (hW' : H'.Wf) (hn : H'.n = H.n) (hr : ∀ a, 64 < H'.room a → H.room a = H'.room a) : H'.rsp.length ≤ H.rsp.length := by
  have run : ∀ f, f < H'.n → H'.cls f = -1 → H.cls f = -1 ∧ H.runs f = H'.runs f := by
    intro f hf hc
    have h1 := room_long hf hc
    have h2 := (hW'.lg f hf hc).2.1
    have h3 := hr (64 * f) (by omega)
    rw [h1] at h3
    have hf' : f < H.n := by omega
    unfold room at h3
    rw [if_neg (by omega)] at h3
    have e : 64 * f / 64 = f := by omega
    rw [e] at h3
    split at h3
    · rename_i h4; exact ⟨h4.1, by omega⟩
    · split at h3
      · rename_i h4
        have hk := hW.kind f hf'
        unfold Cl at hk
        omega
      · omega
  refine nodup_length_le (List.Pairwise.filter _ List.nodup_range) fun s hs => ?_
  obtain ⟨h1, h2, h3⟩ := mem_rsp.1 hs
  refine mem_rsp.2 ⟨by omega, h2, ?_⟩
  rcases h3 with h3 | h3
  · exact .inl (run s h1 h3).1
  · obtain ⟨f, f1, f2, f3, f4⟩ := hW'.mo s h1 h2 h3
    obtain ⟨r1, r2⟩ := run f (by omega) f3
    exact .inr ((hW.lg f (by omega) r1).2.2.2 s f2 (by omega))
/-- The first free span is low. -/
theorem first_low {H : HS} (hW : H.Wf) {f : Nat} (hf : f < H.n) (hlow : ∀ j, j < f → H.cls j ≠ 0) : f ≤ 1 + H.rsp.length + (H.spn 2).length + (H.spn 4).length + (H.spn 8).length + (H.spn 16).length + (H.spn 32).length + (H.spn 64).length := by
  have := nodup_length_le (l := List.range f) (m := 0 :: (H.rsp ++ (H.spn 2 ++ (H.spn 4 ++ (H.spn 8 ++ (H.spn 16 ++ (H.spn 32 ++ H.spn 64))))))) List.nodup_range fun s hs => by
    rw [List.mem_range] at hs
    have hs' : s < H.n := by omega
    have hk := hW.kind s hs'
    by_cases h0 : s = 0
    · rw [h0]; simp
    · refine List.mem_cons_of_mem _ ?_
      simp only [List.mem_append, mem_spn]
      rcases hk with h1 | h1 | h1 | h1
      · exact absurd h1 (hlow s hs)
      · exact .inl (mem_rsp.2 ⟨hs', by omega, .inl h1⟩)
      · exact .inl (mem_rsp.2 ⟨hs', by omega, .inr h1⟩)
      · right
        unfold Cl at h1
        rcases h1 with h1 | h1 | h1 | h1 | h1 | h1 <;> simp [hs', h1]
  simp at this
  omega
end HS
end Go.Proofs.Ytnbiofcfphpikaa
