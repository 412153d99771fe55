/-
  The blocks are listed rising, each once. Counting lists without doubles.
-/
import Derived.Test.YtnbiofcfphpikaaW8
namespace Go.Proofs.Ytnbiofcfphpikaa
namespace HS

theorem pairwise_map_mono {p : Nat → Bool} {f : Nat → Nat} (hf : ∀ i j, i < j → f i < f j) : ∀ n, (((List.range n).filter p).map f).Pairwise (· < ·) := by
  intro n
  rw [List.pairwise_map]
  refine List.Pairwise.filter _ ?_
  exact List.Pairwise.imp (fun h => hf _ _ h) List.pairwise_lt_range
theorem spanBlocks_sorted (H : HS) (s : Nat) : (H.spanBlocks s).Pairwise (· < ·) ∧ ∀ a ∈ H.spanBlocks s, 64 * s ≤ a ∧ a < 64 * s + 64 := by
  unfold spanBlocks
  split
  · exact ⟨List.pairwise_singleton _ _, fun a ha => by rw [List.mem_singleton] at ha; omega⟩
  · split
    · rename_i h1 h2
      obtain ⟨c, hc⟩ := Int.eq_ofNat_of_zero_le (Int.le_of_lt h2)
      rw [hc]
      simp only [Int.toNat_natCast]
      have hc0 : 0 < c := by omega
      refine ⟨pairwise_map_mono (fun i j h => ?_) _, fun a ha => ?_⟩
      · have := Nat.mul_lt_mul_of_pos_right h hc0
        omega
      · obtain ⟨k, hk, rfl⟩ := List.mem_map.1 ha
        have hk1 := List.mem_range.1 (List.mem_filter.1 hk).1
        have : k * c + c ≤ 64 := by
          have h3 : (k + 1) * c ≤ 64 / c * c := Nat.mul_le_mul_right _ hk1
          have h4 := Nat.div_mul_le_self 64 c
          rw [Nat.succ_mul] at h3
          omega
        omega
    · exact ⟨List.Pairwise.nil, fun a ha => by cases ha⟩
theorem blocksTo_sorted (H : HS) : ∀ k, (H.blocksTo k).Pairwise (· < ·) ∧ ∀ a ∈ H.blocksTo k, a < 64 * k
  | 0 => ⟨List.Pairwise.nil, fun a ha => by cases ha⟩
  | k + 1 => by
    have ih := blocksTo_sorted H k
    have hs := spanBlocks_sorted H k
    refine ⟨List.pairwise_append.2 ⟨ih.1, hs.1, fun a ha b hb => ?_⟩, fun a ha => ?_⟩
    · have := ih.2 a ha; have := (hs.2 b hb).1; omega
    · rcases List.mem_append.1 ha with h | h
      · have := ih.2 a h; omega
      · have := (hs.2 a h).2; omega
theorem blocks_sorted (H : HS) : H.blocks.Pairwise (· < ·) := (blocksTo_sorted H H.n).1
theorem blocks_nodup (H : HS) : H.blocks.Nodup := List.Pairwise.imp (fun h => by omega) H.blocks_sorted
end HS

theorem nodup_length_le {α : Type} [DecidableEq α] : ∀ {l m : List α}, l.Nodup → (∀ x ∈ l, x ∈ m) → l.length ≤ m.length
  | [], m, _, _ => Nat.zero_le _
  | x :: l, m, hn, hs => by
    obtain ⟨h1, h2⟩ := List.nodup_cons.1 hn
    have hx := hs x (List.mem_cons_self ..)
    have := nodup_length_le (m := m.erase x) h2 (fun y hy => (List.mem_erase_of_ne (by rintro rfl; exact h1 hy)).2 (hs y (List.mem_cons_of_mem _ hy)))
    rw [List.length_erase_of_mem hx] at this
    have : 0 < m.length := List.length_pos_of_mem hx
    simp only [List.length_cons]
    omega
theorem nodup_length_eq {α : Type} [DecidableEq α] {l m : List α} (hl : l.Nodup) (hm : m.Nodup) (h : ∀ x, x ∈ l ↔ x ∈ m) : l.length = m.length :=
  Nat.le_antisymm (nodup_length_le hl fun x hx => (h x).1 hx) (nodup_length_le hm fun x hx => (h x).2 hx)
theorem ofNats_nodup {l : List Nat} (h : l.Nodup) : (ofNats l).Nodup := by
  unfold ofNats
  exact List.pairwise_map.2 (List.Pairwise.imp (fun h e => h (by omega)) h)
theorem mem_ofNats {l : List Nat} {x : Int} : x ∈ ofNats l ↔ 0 ≤ x ∧ x.toNat ∈ l := by
  unfold ofNats
  constructor
  · intro h; obtain ⟨n, hn, rfl⟩ := List.mem_map.1 h; exact ⟨by omega, by simpa using hn⟩
  · rintro ⟨h0, h⟩; exact List.mem_map.2 ⟨x.toNat, h, by omega⟩
theorem mem_ofNats_nat {l : List Nat} {a : Nat} : (a : Int) ∈ ofNats l ↔ a ∈ l := by rw [mem_ofNats]; simp
/-- How many blocks: as many as a list without doubles that names each. -/
theorem HS.Wf.count {H : HS} (hW : H.Wf) {l : List Nat} (hl : l.Nodup) (h : ∀ a, a ∈ l ↔ H.room a ≠ 0) : H.blocks.length = l.length :=
  nodup_length_eq H.blocks_nodup hl fun a => by rw [hW.mem_blocks, h]
end Go.Proofs.Ytnbiofcfphpikaa
