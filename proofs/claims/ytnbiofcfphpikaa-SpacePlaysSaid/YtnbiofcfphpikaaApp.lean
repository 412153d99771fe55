/-
  append of a whole slice of integers; slices.Clone of one.
-/
import Derived.Test.YtnbiofcfphpikaaW8
namespace Go.Proofs.Ytnbiofcfphpikaa
open Go.RowKit

theorem Own.ownsB {w : World} {T : TypeId} {v : Value} {n : Nat} {f : Nat → Value} (h : Own w T v n f) (B : Nat) (hB : ∀ g, v.ownBlock = some g → B ≤ g) : w.ownsRow B T 1 v n ((List.range n).map f) := by
  have h0 := h.owns
  refine ⟨h0.1, ?_⟩
  rcases h0.2 with h | ⟨b, cap, cur, rfl, _, h1, h2, h3, h4, h5⟩
  · exact .inl h
  · exact .inr ⟨b, cap, cur, rfl, hB b rfl, h1, h2, h3, h4, h5⟩

theorem getD_append_at (l l2 : List Int) (i : Nat) : (l ++ l2).getD i 0 = if i < l.length then l.getD i 0 else l2.getD (i - l.length) 0 := by
  simp only [List.getD_eq_getElem?_getD]
  split
  · rename_i h; rw [List.getElem?_append_left h]
  · rename_i h; rw [List.getElem?_append_right (by omega)]

theorem Ints.cells {w : World} {v : Value} {l : List Int} (h : Ints w v l) {b o : Nat} {sp : Option Nat} {n c : Nat} (hv : v = .slice (some ⟨b, o, sp⟩) n c) : ∀ j u, (l.map (Value.int .i64))[j]? = some u → w.cell? ((⟨b, o, sp⟩ : Addr).add j) = some u := by
  rcases h with ⟨e, _⟩ | ⟨b', cap', cur, e, hg, h1, h2, h3, h4⟩
  · rw [e] at hv; cases hv
  · rw [hv] at e
    simp only [Value.slice.injEq, Option.some.injEq, Addr.mk.injEq] at e
    obtain ⟨⟨rfl, rfl, rfl⟩, rfl, rfl⟩ := e
    intro j u hj
    have hjl : j < l.length := by
      rcases Nat.lt_or_ge j l.length with h | h
      · exact h
      · rw [List.getElem?_eq_none (by simpa using h)] at hj; cases hj
    rw [List.getElem?_map, List.getElem?_eq_getElem hjl] at hj
    simp at hj
    subst hj
    have e2 : (⟨b, 0, none⟩ : Addr).add j = ⟨b, j, none⟩ := by unfold Addr.add; split <;> simp_all
    rw [e2]
    simp only [World.cell?, hg]
    have := h4 j hjl
    simp only [List.getD_eq_getElem?_getD, List.getElem?_eq_getElem hjl, Option.getD_some] at this
    simpa using this

/-- A slice that append may read. -/
def Src (w : World) (x : Value) (l : List Int) : Prop := (x = .slice none 0 0 ∧ l = []) ∨ ∃ ad c, x = .slice (some ad) l.length c ∧ ∀ j u, (l.map (Value.int .i64))[j]? = some u → w.cell? (ad.add j) = some u
theorem Ints.src {w : World} {v : Value} {l : List Int} (h : Ints w v l) : Src w v l := by
  rcases (id h : Ints w v l) with ⟨e, hn⟩ | ⟨b', cap', cur, e, -⟩
  · exact .inl ⟨e, List.eq_nil_of_length_eq_zero hn⟩
  · exact .inr ⟨_, _, e, h.cells e⟩
theorem Arg.src {w : World} {a : Option Addr} {l : List Int} {cap : Nat} (hA : Arg w a l.length (fun i => .int .i64 (l.getD i 0))) (h : a = none → cap = 0) : Src w (.slice a l.length cap) l := by
  cases a with
  | none =>
    rcases hA with h0 | ⟨b, o, e, _⟩
    · left; rw [h0, h rfl]; exact ⟨rfl, List.eq_nil_of_length_eq_zero h0⟩
    · cases e
  | some ad =>
    refine .inr ⟨ad, cap, rfl, ?_⟩
    intro j u hj
    have hjl : j < l.length := by
      rcases Nat.lt_or_ge j l.length with h | h
      · exact h
      · rw [List.getElem?_eq_none (by simpa using h)] at hj; cases hj
    rcases hA with h0 | ⟨b, o, e, hc⟩
    · omega
    · simp only [Option.some.injEq] at e
      subst e
      rw [List.getElem?_map, List.getElem?_eq_getElem hjl] at hj
      simp at hj
      subst hj
      have e2 : (⟨b, o, none⟩ : Addr).add j = ⟨b, o + j, none⟩ := by unfold Addr.add; split <;> simp_all
      rw [e2, hc j hjl]
      simp [List.getD_eq_getElem?_getD, List.getElem?_eq_getElem hjl]
theorem Src.keep {w w' : World} {x : Value} {l : List Int} {F : Nat → Prop} (h : Src w x l) (hk : Keeps F w w') (hF : ∀ k, x.ownBlock = some k → ¬ F k) : Src w' x l := by
  rcases h with h | ⟨ad, c, rfl, h⟩
  · exact .inl h
  · refine .inr ⟨ad, c, rfl, fun j u hj => hk.cell (h j u hj) ?_⟩
    have e : (ad.add j).block = ad.block := by unfold Addr.add; split <;> rfl
    rw [e]
    exact hF _ rfl
theorem Src.alloc {w : World} {x : Value} {l : List Int} (h : Src w x l) (o : Obj) : Src (w.alloc o) x l := h.keep ((Keeps.refl (fun _ => False) _).alloc o) (fun _ _ h => h)
theorem Src.drewN {w : World} {x : Value} {l : List Int} (h : Src w x l) (q : Nat) : Src (w.drewN q) x l := h
theorem Ints.empty (w : World) : Ints (w.alloc (.cells #[] 3)) (.slice (some ⟨w.heap.size, 0, none⟩) 0 0) [] :=
  .inr ⟨_, 0, #[], rfl, heap_alloc_new w _, Nat.le_refl _, Nat.zero_le _, rfl, fun i hi => by simp at hi⟩

theorem run_appB {w : World} {v x : Value} {l l2 : List Int} {i0 : TypeInfo} (ty : TypeId) (hi : Try.prog.info? 3 = some i0) (hz : i0.zero = some (.int .i64 0)) (h1 : i0.size = 1) (h8 : i0.bytes = 8)
    (B : Nat) (hI : Ints w v l) (hf : ∀ g, v.ownBlock = some g → B ≤ g) (hsz : B ≤ w.heap.size) (hX : Src w x l2) (hn : l.length + l2.length ≤ 1000000000000) :
    ∃ v' w', (Builtin.append_ #[ (22 : Nat) , (22 : Nat) ] ty #[v, x]).run Try.prog w = .ok v' w' ∧ Ints w' v' (l ++ l2) ∧ (∀ g, v'.ownBlock = some g → B ≤ g) ∧ Keeps (fun k => v.ownBlock = some k) w w' ∧ (v' = .slice none 0 0 → v = .slice none 0 0) := by
  have hB := hI.ownsB B hf
  rcases hX with ⟨e, hnil⟩ | ⟨ad, cap', e, hcells⟩
  · subst e
    subst hnil
    refine ⟨v, w, ?_, by rw [List.append_nil]; exact hI, hf, Keeps.refl _ _, fun h => h⟩
    exact run_append_owned_none (P := Try.prog) (w := w) B 22 ty 3 i0 1 Try.underlying_ints hi v _ _ hB
  · subst e
    have hml : maxLen = 9223372036854775807 := rfl
    obtain ⟨v', w', hr, ho, hg, hnn⟩ := run_append_own (P := Try.prog) w B 22 ty 3 i0 (.int .i64 0) 1 8 Try.underlying_ints hi hz h1 h8 (by decide) (by omega) v l.length _ hB
      ad l2.length cap' (l2.map (Value.int .i64)) (by simp) hcells (by intro u hu; simp at hu; obtain ⟨z, _, rfl⟩ := hu; rfl) (by omega) (by omega) hsz
    refine ⟨v', w', hr, ?_, fun g hg' => (ho.lt g hg').1, ⟨hg.os, hg.tape, hg.output, hg.size, fun k hk hn => hg.block k hk (fun e => hn e.symm)⟩, fun h => (hnn.1 h).1⟩
    show Own w' _ v' (l ++ l2).length _
    rw [List.length_append]
    refine Own.of_owns ho fun j hj => ?_
    rw [getD_append_at]
    by_cases hjl : j < l.length
    · rw [if_pos hjl, List.getElem?_append_left (by simpa using hjl), List.getElem?_map, List.getElem?_range hjl]; rfl
    · rw [if_neg hjl, List.getElem?_append_right (by simpa using hjl), List.getElem?_map]
      simp only [List.length_map, List.length_range]
      have hj2 : j - l.length < l2.length := by omega
      rw [List.getElem?_eq_getElem hj2, List.getD_eq_getElem?_getD, List.getElem?_eq_getElem hj2]
      rfl

theorem wpList_appB {w : World} {v x : Value} {l l2 : List Int} {i0 : TypeInfo} (hi : Try.prog.info? 3 = some i0) (hz : i0.zero = some (.int .i64 0)) (h1 : i0.size = 1) (h8 : i0.bytes = 8)
    {ops : Array Oper} {rest : List Oper} {o : Oper} {a : Act} {Q : Exit → Act → World → Prop} (hgd : o.guard = none) (s y : Operand)
    (ho : o.op = .call { callee := .builtin .append, args := #[s, y], argTypes := #[ (22 : Nat) , (22 : Nat) ] })
    (hs : a.eval s = v) (hy : a.eval y = x) (B : Nat) (hI : Ints w v l) (hf : ∀ g, v.ownBlock = some g → B ≤ g) (hsz : B ≤ w.heap.size) (hX : Src w x l2) (hn : l.length + l2.length ≤ 1000000000000)
    (h : ∀ v' w', Ints w' v' (l ++ l2) → (∀ g, v'.ownBlock = some g → B ≤ g) → Keeps (fun k => v.ownBlock = some k) w w' → wpList Try.prog ops Q rest (a.put o.dst v') w') : wpList Try.prog ops Q (o :: rest) a w := by
  refine wpList_plain hgd fun K hK => ?_
  obtain ⟨v', w', hr, h2, h3, h4, -⟩ := run_appB o.type hi hz h1 h8 B hI hf hsz hX hn
  unfold Oper.wp execOp
  simp only [ho, resolve, invoke, builtin, Sem.run_bind, Sem.run_pure, Result.andThen_ok, List.map_toArray, List.map_cons, List.map_nil, hs, hy, hr]
  exact hK _ _ (h v' w' h2 h3 h4)
/-- .. onto a slice that is not nil: so is what comes. -/
theorem wpList_appN {w : World} {b n c : Nat} {x : Value} {l l2 : List Int} {i0 : TypeInfo} (hi : Try.prog.info? 3 = some i0) (hz : i0.zero = some (.int .i64 0)) (h1 : i0.size = 1) (h8 : i0.bytes = 8)
    {ops : Array Oper} {rest : List Oper} {o : Oper} {a : Act} {Q : Exit → Act → World → Prop} (hgd : o.guard = none) (s y : Operand)
    (ho : o.op = .call { callee := .builtin .append, args := #[s, y], argTypes := #[ (22 : Nat) , (22 : Nat) ] })
    (hs : a.eval s = .slice (some ⟨b, 0, none⟩) n c) (hy : a.eval y = x) (B : Nat) (hI : Ints w (.slice (some ⟨b, 0, none⟩) n c) l) (hf : B ≤ b) (hsz : B ≤ w.heap.size) (hX : Src w x l2) (hn : l.length + l2.length ≤ 1000000000000)
    (h : ∀ g cap w', Ints w' (.slice (some ⟨g, 0, none⟩) (l ++ l2).length cap) (l ++ l2) → B ≤ g → Keeps (fun k => k = b) w w' → wpList Try.prog ops Q rest (a.put o.dst (.slice (some ⟨g, 0, none⟩) (l ++ l2).length cap)) w') : wpList Try.prog ops Q (o :: rest) a w := by
  refine wpList_plain hgd fun K hK => ?_
  obtain ⟨v', w', hr, h2, h3, h4, h5⟩ := run_appB o.type hi hz h1 h8 B hI (fun g hg => by simp [Value.ownBlock] at hg; omega) hsz hX hn
  rcases (id h2 : Ints w' v' (l ++ l2)) with ⟨e, -⟩ | ⟨g, cap, cur, rfl, -⟩
  · exact absurd (h5 e) (by simp)
  · unfold Oper.wp execOp
    simp only [ho, resolve, invoke, builtin, Sem.run_bind, Sem.run_pure, Result.andThen_ok, List.map_toArray, List.map_cons, List.map_nil, hs, hy, hr]
    exact hK _ _ (h g cap w' h2 (h3 g rfl) (h4.mono fun k _ hk => by simp [Value.ownBlock] at hk; omega))

set_option maxRecDepth 100000 in
/-- slices.Clone of integers. -/
theorem clone_calls {w : World} {b o : Nat} {l : List Int} {cap : Nat} (hA : Src w (.slice (some ⟨b, o, none⟩) l.length cap) l) (hn : l.length ≤ 1000000000000) :
    Calls Try.prog 84 #[.slice (some ⟨b, o, none⟩) l.length cap] w fun e w' => ∃ v, e = .returned v ∧ Hid (Gather w w' v l) := by
  obtain ⟨i0, hi, hz0, hz1, hz2⟩ := info_parts Try.info_int
  have q22 : ∀ (w : World) (a : Option Addr) (n c n' c' : Nat), (binOp .eql 22 (.slice a n c) (.slice none n' c')).run Try.prog w = .ok (.bool a.isNone) w := fun w a n c n' c' => Lib.run_eql_slice_nil w _ _ a n c n' c' Try.underlying_ints
  have HA := Lib.hid hA
  have HN := Lib.hid hn
  clear hA hn
  go_enter Try.func84, Try.ntmps84
  go_wp2_with (at_builtin; go_loud (refine wpList_appB hi hz0 hz1 hz2 rfl _ _ rfl rfl rfl w.heap.size (Ints.empty w) (fun g (h : (Value.slice (some ⟨w.heap.size, 0, none⟩) 0 0).ownBlock = some g) => by simp [Value.ownBlock] at h; omega) (by simp) (HA.out.alloc _) (by simpa using HN.out) ?_; intro v1 w1 hI hf hk))
  go_ret
  exact ⟨v1, rfl, hI, ((Keeps.refl (fun _ => False) w).alloc _).trans hk (fun b hb (hv : (Value.slice (some ⟨w.heap.size, 0, none⟩) 0 0).ownBlock = some b) => by simp [Value.ownBlock] at hv; omega), hf⟩
end Go.Proofs.Ytnbiofcfphpikaa
