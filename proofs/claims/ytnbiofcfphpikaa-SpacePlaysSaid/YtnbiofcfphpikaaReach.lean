/-
  What is reached: the plain law of a worklist. A least number, for a loop's measure.
-/
import Derived.Test.YtnbiofcfphpikaaV2
namespace Go.Proofs.Ytnbiofcfphpikaa
open Go.RowKit

theorem least_exists (p : Nat → Prop) : ∀ n, p n → ∃ m, p m ∧ ∀ k, p k → m ≤ k := by
  intro n
  induction n using Nat.strongRecOn with
  | ind n ih =>
    intro hn
    by_cases h : ∃ k, k < n ∧ p k
    · obtain ⟨k, hk, hp⟩ := h; exact ih k hk hp
    · exact ⟨n, hn, fun k hk => by
        rcases Nat.lt_or_ge k n with h1 | h1
        · exact absurd ⟨k, h1, hk⟩ h
        · exact h1⟩
open Classical in
noncomputable def Least (p : Nat → Prop) : Nat := if h : ∃ n, p n then Classical.choose (least_exists p h.choose h.choose_spec) else 0
theorem least_spec {p : Nat → Prop} (h : ∃ n, p n) : p (Least p) := by
  unfold Least; rw [dif_pos h]; exact (Classical.choose_spec (least_exists p h.choose h.choose_spec)).1
theorem least_le {p : Nat → Prop} {k : Nat} (h : p k) : Least p ≤ k := by
  unfold Least; rw [dif_pos ⟨k, h⟩]; exact (Classical.choose_spec (least_exists p _ (Exists.choose_spec ⟨k, h⟩))).2 k h

theorem filter_drop {l : List Int} {p q : Int → Bool} {x : Int} (hx : x ∈ l) (hp : p x = true) (hq : q x = false) (hi : ∀ y, q y = true → p y = true) : (l.filter q).length + 1 ≤ (l.filter p).length := by
  induction l with
  | nil => cases hx
  | cons a l ih =>
    have hle : (l.filter q).length ≤ (l.filter p).length := by
      clear ih hx
      induction l with
      | nil => simp
      | cons b l ih2 =>
        simp only [List.filter_cons]
        cases hqb : q b with
        | true => rw [hi b hqb]; simp; omega
        | false => cases p b <;> simp <;> omega
    simp only [List.filter_cons]
    rcases List.mem_cons.1 hx with rfl | hx
    · rw [hp, hq]; simp; omega
    · have := ih hx
      cases hqa : q a with
      | true => rw [hi a hqa]; simp; omega
      | false => cases p a <;> simp <;> omega

namespace HS
theorem mem_kidsTo {H : HS} {a : Nat} {kind mask x : Int} : ∀ {n}, x ∈ H.kidsTo a kind mask n → H.isRef x = true
  | 0, h => by cases h
  | n + 1, h => by
    rcases List.mem_append.1 h with h | h
    · exact mem_kidsTo h
    · split at h
      · rename_i hc
        rw [List.mem_singleton] at h
        subst h; exact hc.2
      · cases h
theorem mem_kids {H : HS} {a : Nat} {x : Int} (h : x ∈ H.kids a) : H.isRef x = true := by
  unfold kids at h
  split at h
  · exact mem_kidsTo h
  · cases h
theorem kids_length (H : HS) (a : Nat) : (H.kids a).length ≤ 131072 := by
  unfold kids
  split
  · have := kidsTo_length H a (hk (H.words a)) (hm (H.words a)) (min (hs (H.words a)).toNat (H.room a - 1))
    have h2 : hs (H.words a) < 131072 := by unfold hs; omega
    omega
  · simp

/-- What is reached from the roots. -/
inductive Live (H : HS) (roots : List Int) : Int → Prop
  | root {x : Int} : x ∈ roots → H.isRef x = true → Live H roots x
  | step {x y : Int} : Live H roots x → y ∈ H.kids x.toNat → Live H roots y
theorem Live.isRef {H : HS} {roots : List Int} {x : Int} (h : H.Live roots x) : H.isRef x = true := by
  cases h with
  | root _ h => exact h
  | step _ h => exact mem_kids h

/-- The worklist: what is marked, what is grey. -/
structure Grey (H : HS) (roots G S : List Int) : Prop where
  sound : ∀ x ∈ S, H.Live roots x
  grey : ∀ x ∈ G, H.isRef x = true → H.Live roots x
  start : ∀ x ∈ roots, H.isRef x = true → x ∈ S ∨ x ∈ G
  step : ∀ x ∈ S, ∀ y ∈ H.kids x.toNat, y ∈ S ∨ y ∈ G
  few : S.length + ((ofNats H.blocks).filter fun x => !S.contains x).length ≤ H.blocks.length
  size : G.length ≤ roots.length + 131072 * S.length
theorem Grey.begin (H : HS) (roots : List Int) : Grey H roots roots [] :=
  ⟨fun x h => absurd h (by simp), fun x h hr => .root h hr, fun x h _ => .inr h, fun x h => absurd h (by simp), by rw [List.length_nil, Nat.zero_add, ← ofNats_length]; exact List.length_filter_le _ _, by simp⟩
theorem Grey.done {H : HS} {roots S : List Int} (h : Grey H roots [] S) (x : Int) : H.Live roots x ↔ x ∈ S := by
  constructor
  · intro hx
    induction hx with
    | root hx hr => rcases h.start _ hx hr with h | h; exact h; cases h
    | step _ hy ih => rcases h.step _ ih _ hy with h | h; exact h; cases h
  · exact h.sound x
/-- A word that is marked already, or that is none. -/
theorem Grey.skip {H : HS} {roots G S : List Int} {x : Int} (h : Grey H roots (G ++ [x]) S) (hx : x ∈ S ∨ H.isRef x = false) : Grey H roots G S := by
  refine ⟨h.sound, fun y hy => h.grey y (List.mem_append_left _ hy), fun y hy hr => ?_, fun y hy z hz => ?_, h.few, ?_⟩
  · rcases h.start y hy hr with h1 | h1
    · exact .inl h1
    · rcases List.mem_append.1 h1 with h1 | h1
      · exact .inr h1
      · rw [List.mem_singleton] at h1
        subst h1
        rcases hx with hx | hx
        · exact .inl hx
        · rw [hx] at hr; cases hr
  · rcases h.step y hy z hz with h1 | h1
    · exact .inl h1
    · rcases List.mem_append.1 h1 with h1 | h1
      · exact .inr h1
      · rw [List.mem_singleton] at h1
        subst h1
        rcases hx with hx | hx
        · exact .inl hx
        · have := mem_kids hz; rw [hx] at this; cases this
  · have := h.size; rw [List.length_append] at this; simp at this; omega
/-- One that is marked now. -/
theorem Grey.mark {H : HS} {roots G S : List Int} {x : Int} (h : Grey H roots (G ++ [x]) S) (hS : x ∉ S) (hr : H.isRef x = true) (hb : x ∈ ofNats H.blocks) : Grey H roots (G ++ H.kids x.toNat) (x :: S) := by
  have hlive : H.Live roots x := h.grey x (List.mem_append_right _ (List.mem_singleton.2 rfl)) hr
  refine ⟨fun y hy => ?_, fun y hy hr => ?_, fun y hy hr => ?_, fun y hy z hz => ?_, ?_, ?_⟩
  · rcases List.mem_cons.1 hy with rfl | hy
    · exact hlive
    · exact h.sound y hy
  · rcases List.mem_append.1 hy with hy | hy
    · exact h.grey y (List.mem_append_left _ hy) hr
    · exact .step hlive hy
  · rcases h.start y hy hr with h1 | h1
    · exact .inl (List.mem_cons_of_mem _ h1)
    · rcases List.mem_append.1 h1 with h1 | h1
      · exact .inr (List.mem_append_left _ h1)
      · exact .inl (by rw [List.mem_singleton] at h1; rw [h1]; exact List.mem_cons_self ..)
  · rcases List.mem_cons.1 hy with rfl | hy
    · exact .inr (List.mem_append_right _ hz)
    · rcases h.step y hy z hz with h1 | h1
      · exact .inl (List.mem_cons_of_mem _ h1)
      · rcases List.mem_append.1 h1 with h1 | h1
        · exact .inr (List.mem_append_left _ h1)
        · exact .inl (by rw [List.mem_singleton] at h1; rw [h1]; exact List.mem_cons_self ..)
  · have hd : ((ofNats H.blocks).filter fun y => !(x :: S).contains y).length + 1 ≤ ((ofNats H.blocks).filter fun y => !S.contains y).length :=
      filter_drop (x := x) hb (by simpa using hS) (by simp) (fun y hy => by simp at hy ⊢; exact hy.2)
    have := h.few
    simp only [List.length_cons]
    omega
  · have h1 := h.size
    have h2 := H.kids_length x.toNat
    simp only [List.length_append, List.length_cons, List.length_nil] at h1 ⊢
    omega
/-- How much is still to be done. -/
def todo (H : HS) (G S : List Int) : Nat := 131074 * ((ofNats H.blocks).filter fun x => !S.contains x).length + G.length
theorem todo_skip (H : HS) (G S : List Int) (x : Int) : H.todo G S < H.todo (G ++ [x]) S := by
  unfold todo; simp
theorem todo_mark {H : HS} {G S : List Int} {x : Int} (hS : x ∉ S) (hb : x ∈ ofNats H.blocks) : H.todo (G ++ H.kids x.toNat) (x :: S) < H.todo (G ++ [x]) S := by
  have hd : ((ofNats H.blocks).filter fun y => !(x :: S).contains y).length + 1 ≤ ((ofNats H.blocks).filter fun y => !S.contains y).length :=
    filter_drop (x := x) hb (by simpa using hS) (by simp) (fun y hy => by simp at hy ⊢; exact hy.2)
  have h2 := H.kids_length x.toNat
  unfold todo
  simp only [List.length_append, List.length_cons, List.length_nil]
  omega
end HS
end Go.Proofs.Ytnbiofcfphpikaa
