/-
  Slices that the call itself made, each with the block that it lies in; append of one element.
-/
import Derived.Test.YtnbiofcfphpikaaMem
namespace Go.Proofs.Ytnbiofcfphpikaa
open Go.RowKit

/-- The slice v holds f 0, .., f (n - 1), in a block of its own. -/
def Own (w : World) (T : TypeId) (v : Value) (n : Nat) (f : Nat → Value) : Prop :=
  (v = .slice none 0 0 ∧ n = 0) ∨ ∃ g cap cur, v = .slice (some ⟨g, 0, none⟩) n cap ∧ w.heap[g]? = some (.cells cur T (0, 0)) ∧ n ≤ cap ∧ cap ≤ maxLen ∧ cur.size = cap ∧ ∀ i, i < n → cur[i]? = some (f i)

namespace Own
variable {w w' : World} {T : TypeId} {v : Value} {n : Nat} {f g : Nat → Value} {F : Nat → Prop}
theorem nil (w : World) (T : TypeId) (f : Nat → Value) : Own w T (.slice none 0 0) 0 f := .inl ⟨rfl, rfl⟩
theorem lt (h : Own w T v n f) : ∀ k, v.ownBlock = some k → k < w.heap.size := by
  intro k hk
  rcases h with ⟨rfl, _⟩ | ⟨g, cap, cur, rfl, hg, _⟩
  · simp [Value.ownBlock] at hk
  · simp [Value.ownBlock] at hk
    subst hk; exact heap_lt hg
theorem keep (h : Own w T v n f) (hk : Keeps F w w') (hF : ∀ k, v.ownBlock = some k → ¬ F k) : Own w' T v n f := by
  rcases h with h | ⟨g, cap, cur, rfl, hg, rest⟩
  · exact .inl h
  · exact .inr ⟨g, cap, cur, rfl, hk.at_ hg (hF g rfl), rest⟩
theorem drewN (h : Own w T v n f) (q : Nat) : Own (w.drewN q) T v n f := h
theorem drew (h : Own w T v n f) : Own w.drew T v n f := h
theorem alloc (h : Own w T v n f) (o : Obj) : Own (w.alloc o) T v n f := h.keep ((Keeps.refl (fun _ => False) _).alloc o) (fun _ _ h => h)
theorem congr (h : Own w T v n f) (e : ∀ i, i < n → f i = g i) : Own w T v n g := by
  rcases h with h | ⟨b, cap, cur, rfl, hg, h1, h2, h3, h4⟩
  · exact .inl h
  · exact .inr ⟨b, cap, cur, rfl, hg, h1, h2, h3, fun i hi => by rw [h4 i hi, e i hi]⟩
/-- What the walk wants of it. -/
theorem shape (h : Own w T v n f) : (v = .slice none 0 0 ∧ n = 0) ∨ ∃ b cap, v = .slice (some ⟨b, 0, none⟩) n cap ∧ n ≤ cap ∧ b < w.heap.size ∧ (∀ i, i < n → w.cell? ⟨b, i, none⟩ = some (f i)) ∧ ∀ i, w.frozen? ⟨b, i, none⟩ = false := by
  rcases h with h | ⟨b, cap, cur, rfl, hg, h1, h2, h3, h4⟩
  · exact .inl h
  · refine .inr ⟨b, cap, rfl, h1, heap_lt hg, fun i hi => ?_, fun i => by simp [World.frozen?, hg]⟩
    simp only [World.cell?, hg]
    simpa using h4 i hi
theorem some_shape (h : Own w T v n f) (hn : 0 < n) : ∃ b cap, v = .slice (some ⟨b, 0, none⟩) n cap ∧ n ≤ cap ∧ b < w.heap.size ∧ (∀ i, i < n → w.cell? ⟨b, i, none⟩ = some (f i)) ∧ ∀ i, w.frozen? ⟨b, i, none⟩ = false := by
  rcases h.shape with ⟨_, h⟩ | h
  · omega
  · exact h
/-- A store. -/
theorem set {b cap : Nat} (h : Own w T (.slice (some ⟨b, 0, none⟩) n cap) n f) {i : Nat} (hi : i < n) (u : Value) : Own (w.setCell ⟨b, i, none⟩ u) T (.slice (some ⟨b, 0, none⟩) n cap) n (setf f i u) := by
  rcases h with ⟨h, _⟩ | ⟨b', cap', cur, e, hg, h1, h2, h3, h4⟩
  · cases h
  · simp only [Value.slice.injEq, Option.some.injEq, Addr.mk.injEq, and_true, true_and] at e
    obtain ⟨rfl, rfl⟩ := e
    refine .inr ⟨b, cap, cur.setIfInBounds i u, rfl, ?_, h1, h2, by simpa using h3, fun j hj => ?_⟩
    · simp only [World.setCell, Array.getElem?_modify, if_true, hg, Option.map_some]
      rfl
    · by_cases e : i = j
      · subst e; rw [setf_same, Array.getElem?_setIfInBounds, if_pos rfl, if_pos (by omega)]
      · rw [setf_ne _ _ (Ne.symm e), Array.getElem?_setIfInBounds_ne e]; exact h4 j hj
theorem other (h : Own w T v n f) {p : Addr} (hp : v.ownBlock ≠ some p.block) (u : Value) : Own (w.setCell p u) T v n f :=
  h.keep ((Keeps.refl (fun k => k = p.block) _).setCell (fun _ => rfl) u) (fun k hk e => hp (by rw [hk, e]))
theorem owns (h : Own w T v n f) : w.ownsRow 0 T 1 v n ((List.range n).map f) := by
  refine ⟨by simp, ?_⟩
  rcases h with h | ⟨b, cap, cur, rfl, hg, h1, h2, h3, h4⟩
  · exact .inl h
  · refine .inr ⟨b, cap, cur, rfl, Nat.zero_le _, hg, h1, h2, by omega, ?_⟩
    apply List.ext_getElem?
    intro i
    rw [List.getElem?_take, List.getElem?_map]
    by_cases hi : i < n
    · rw [if_pos (by omega), Array.getElem?_toList, h4 i hi, List.getElem?_range hi]; rfl
    · rw [if_neg (by omega), List.getElem?_eq_none (by simp; omega)]; rfl
theorem of_owns {B : Nat} {xs : List Value} (h : w.ownsRow B T 1 v n xs) (hx : ∀ i, i < n → xs[i]? = some (f i)) : Own w T v n f := by
  rcases h.2 with h | ⟨b, cap, cur, rfl, _, hg, h1, h2, h3, h4⟩
  · exact .inl h
  · refine .inr ⟨b, cap, cur, rfl, hg, h1, h2, by omega, fun i hi => ?_⟩
    have := hx i hi
    rw [← h4, List.getElem?_take, if_pos (by omega), Array.getElem?_toList] at this
    exact this
end Own

section
variable {P : Program} (w : World)
/-- append of one element: what comes is in the same block, or in a new one. -/
theorem run_app1 (t ty e : TypeId) (i : TypeInfo) (z : Value) (bytes : Nat) (ht : P.underlying t = some (.slice e)) (hi : P.info? e = some i) (hz : i.zero = some z)
    (hsize : i.size = 1) (hby : i.bytes = bytes) (hzs : z.cells.size = 1) (hb8 : bytes ≤ 64)
    (v : Value) (n : Nat) (f : Nat → Value) (hown : Own w e v n f) (a : Addr) (c : Nat) (u : Value) (hu : w.cell? a = some u) (h1 : u.oneCell' = true) (hn : n ≤ 1000000000000) :
    ∃ v' w', (Builtin.append_ #[t, t] ty #[v, .slice (some a) 1 c]).run P w = .ok v' w' ∧ Own w' e v' (n + 1) (setf f n u) ∧ Keeps (fun k => v.ownBlock = some k) w w' ∧
      (∃ g cap, v' = .slice (some ⟨g, 0, none⟩) (n + 1) cap ∧ (v.ownBlock = some g ∨ g = w.heap.size)) := by
  have hnews : ∀ j x, [u][j]? = some x → w.cell? (a.add j) = some x := by
    intro j x hj
    cases j with
    | zero => simp at hj; subst hj; simpa [Addr.add] using hu
    | succ j => simp at hj
  have hone : ∀ x ∈ [u], x.oneCell' = true := by intro x hx; simp at hx; subst hx; exact h1
  have hbb : (n + 1) * bytes ≤ 140737488355328 := by
    have : (n + 1) * bytes ≤ (n + 1) * 64 := Nat.mul_le_mul_left _ hb8
    omega
  have hml : maxLen = 9223372036854775807 := rfl
  have key := run_append_own (P := P) w 0 t ty e i z 1 bytes ht hi hz hsize hby hzs (by omega) v n _ hown.owns a 1 c [u] rfl hnews hone (by omega) hbb (Nat.zero_le _)
  obtain ⟨v', w', hr, ho, hg, hnil⟩ := key
  have hown' : Own w' e v' (n + 1) (setf f n u) := by
    refine Own.of_owns ho fun j hj => ?_
    by_cases e : j = n
    · subst e; rw [setf_same, List.getElem?_append_right (by simp)]; simp
    · rw [setf_ne _ _ e, List.getElem?_append_left (by simp; omega), List.getElem?_map, List.getElem?_range (by omega)]; rfl
  have hkeep : Keeps (fun k => v.ownBlock = some k) w w' := ⟨hg.os, hg.tape, hg.output, hg.size, fun k hk hn => hg.block k hk (fun e => hn e.symm)⟩
  refine ⟨v', w', hr, hown', hkeep, ?_⟩
  -- where it lies
  rcases hown with ⟨rfl, rfl⟩ | ⟨g, cap, cur, rfl, hgg, h1', h2', h3', h4'⟩
  · have hr2 := run_append_nil (P := P) w t ty e i z ht hi hz a 1 c [u] (by simp [hsize]) hnews (by omega) (by omega) (by rw [hby]; omega)
    rw [hr] at hr2
    injection hr2 with e1 e2
    exact ⟨_, _, e1, .inr rfl⟩
  · by_cases hroom : n + 1 ≤ cap
    · have hr2 := run_append_room (P := P) w t ty e i ht hi g n cap cur hgg a 1 c [u] (by simp [hsize]) hnews hone hroom (by rw [hsize]; simp; omega)
      rw [hr] at hr2
      injection hr2 with e1 e2
      exact ⟨_, _, e1, .inl rfl⟩
    · have hcells : ∀ j x, ((List.range n).map f)[j]? = some x → w.cell? ((⟨g, 0, none⟩ : Addr).add j) = some x := by
        intro j x hj
        have hjn : j < n := by
          rcases Nat.lt_or_ge j n with h | h
          · exact h
          · rw [List.getElem?_eq_none (by simp; omega)] at hj; cases hj
        rw [List.getElem?_map, List.getElem?_range hjn] at hj
        simp at hj
        subst hj
        have : (⟨g, 0, none⟩ : Addr).add j = ⟨g, j, none⟩ := by unfold Addr.add; split <;> simp_all
        rw [this]
        simp only [World.cell?, hgg]
        simpa using h4' j hjn
      have hr2 := run_append_grow (P := P) w t ty e i z ht hi hz ⟨g, 0, none⟩ n cap ((List.range n).map f) (by simp [hsize]) hcells a 1 c [u] (by simp [hsize]) hnews (by omega) (by omega) (growslice_fits (by omega) (by rw [hby]; exact hbb))
      rw [hr] at hr2
      injection hr2 with e1 e2
      exact ⟨_, _, e1, .inr (by simp)⟩

theorem wp_app1 {o : Oper} {a : Act} {K : Act → World → Prop} {Q : Exit → Act → World → Prop} (s x : Operand) (t : TypeId)
    (ho : o.op = .call { callee := .builtin .append, args := #[s, x], argTypes := #[t, t] })
    (e : TypeId) (i : TypeInfo) (z : Value) (bytes : Nat) (ht : P.underlying t = some (.slice e)) (hi : P.info? e = some i) (hz : i.zero = some z)
    (hsize : i.size = 1) (hby : i.bytes = bytes) (hzs : z.cells.size = 1) (hb8 : bytes ≤ 64)
    (v : Value) (n : Nat) (f : Nat → Value) (hs : a.eval s = v) (hown : Own w e v n f) (ad : Addr) (c : Nat) (u : Value) (hx : a.eval x = .slice (some ad) 1 c) (hu : w.cell? ad = some u) (h1 : u.oneCell' = true) (hn : n ≤ 1000000000000)
    (h : ∀ g cap w', Own w' e (.slice (some ⟨g, 0, none⟩) (n + 1) cap) (n + 1) (setf f n u) → Keeps (fun k => v.ownBlock = some k) w w' → (v.ownBlock = some g ∨ g = w.heap.size) → K (a.put o.dst (.slice (some ⟨g, 0, none⟩) (n + 1) cap)) w') : o.wp P a w K Q := by
  obtain ⟨v', w', hr, h2, h3, g, cap, rfl, h4⟩ := run_app1 (P := P) w t o.type e i z bytes ht hi hz hsize hby hzs hb8 v n f hown ad c u hu h1 hn
  unfold Oper.wp execOp
  simp only [ho, resolve, invoke, builtin, Sem.run_bind, Sem.run_pure, Result.andThen_ok, List.map_toArray, List.map_cons, List.map_nil, hs, hx, hr]
  exact h g cap w' h2 h3 h4

theorem wpList_app1 {ops : Array Oper} {rest : List Oper} {o : Oper} {a : Act} {Q : Exit → Act → World → Prop} (hgd : o.guard = none) (s x : Operand) (t : TypeId)
    (ho : o.op = .call { callee := .builtin .append, args := #[s, x], argTypes := #[t, t] })
    (e : TypeId) (i : TypeInfo) (z : Value) (bytes : Nat) (ht : P.underlying t = some (.slice e)) (hi : P.info? e = some i) (hz : i.zero = some z)
    (hsize : i.size = 1) (hby : i.bytes = bytes) (hzs : z.cells.size = 1) (hb8 : bytes ≤ 64)
    (v : Value) (n : Nat) (f : Nat → Value) (hs : a.eval s = v) (hown : Own w e v n f) (ad : Addr) (c : Nat) (u : Value) (hx : a.eval x = .slice (some ad) 1 c) (hu : w.cell? ad = some u) (h1 : u.oneCell' = true) (hn : n ≤ 1000000000000)
    (h : ∀ g cap w', Own w' e (.slice (some ⟨g, 0, none⟩) (n + 1) cap) (n + 1) (setf f n u) → Keeps (fun k => v.ownBlock = some k) w w' → (v.ownBlock = some g ∨ g = w.heap.size) → wpList P ops Q rest (a.put o.dst (.slice (some ⟨g, 0, none⟩) (n + 1) cap)) w') : wpList P ops Q (o :: rest) a w :=
  wpList_plain hgd fun _ hK => wp_app1 w s x t ho e i z bytes ht hi hz hsize hby hzs hb8 v n f hs hown ad c u hx hu h1 hn fun g cap w' h2 h3 h4 => hK _ _ (h g cap w' h2 h3 h4)
end
end Go.Proofs.Ytnbiofcfphpikaa
