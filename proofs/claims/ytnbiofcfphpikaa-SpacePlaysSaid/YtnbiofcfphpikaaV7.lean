/-
  The walks of space: Hold, Drop, Head, Get, Set, Told.
-/
import Derived.Test.YtnbiofcfphpikaaV6
namespace Go.Proofs.Ytnbiofcfphpikaa
open Go.RowKit

/-- The list's new block is its old one, or a new one. -/
def Near (wr : World) (hv hv' : Value) : Prop := ∀ g, hv'.ownBlock = some g → hv.ownBlock = some g ∨ wr.heap.size ≤ g
theorem Near.refl (wr : World) (hv : Value) : Near wr hv hv := fun _ h => .inl h

set_option maxRecDepth 100000 in
set_option maxHeartbeats 1000000 in
theorem hold_calls {w wr : World} {B : HB} {sp : Nat} {hv : Value} {H : HS} {held : List Int} {n : Nat} (h : SpaceAt w wr B sp hv H held n) (x : Int) (hx : (Lit.int .i64 x).wf = true) (hl : held.length ≤ 10000000) :
    Calls Try.prog 23 #[.pointer (some ⟨sp, 0, none⟩), .int .i64 x] wr fun e w' => e = .returned (.tuple #[]) ∧ ∃ hv', Hid (SpaceAt w w' B sp hv' H (held ++ [x]) n ∧ Keeps (SpF B sp hv) wr w' ∧ Near wr hv hv') := by
  obtain ⟨i0, hi, hz0, hz1, hz2⟩ := info_parts Try.info_int
  have hc2 := h.c2
  have hfr := h.free
  have hsp := h.spLt
  have HI : Hid (Own wr 3 hv held.length (fun i => .int .i64 (held.getD i 0))) := h.ints
  have H0 := Lib.hid h
  have hcase : hv = .slice none 0 0 ∧ held = [] ∨ ∃ ad c, hv = .slice (some ad) held.length c := by
    rcases h.ints.src with h | ⟨ad, c, h, _⟩
    · exact .inl h
    · exact .inr ⟨ad, c, h⟩
  have HFIN : Hid (∀ g cap w3, Own w3 3 (.slice (some ⟨g, 0, none⟩) (held.length + 1) cap) (held.length + 1) (setf (fun i => .int .i64 (held.getD i 0)) held.length (.int .i64 x)) →
      Keeps (fun b => hv.ownBlock = some b) (wr.alloc (.cells #[.int .i64 x] 3)) w3 → (hv.ownBlock = some g ∨ g = (wr.alloc (.cells #[.int .i64 x] 3)).heap.size) →
      SpaceAt w (w3.setCell ⟨sp, 2, none⟩ (.slice (some ⟨g, 0, none⟩) (held.length + 1) cap)) B sp (.slice (some ⟨g, 0, none⟩) (held.length + 1) cap) H (held ++ [x]) n ∧ Keeps (SpF B sp hv) wr (w3.setCell ⟨sp, 2, none⟩ (.slice (some ⟨g, 0, none⟩) (held.length + 1) cap)) ∧ Near wr hv (.slice (some ⟨g, 0, none⟩) (held.length + 1) cap) ∧
      w3.frozen? ⟨sp, 2, none⟩ = false ∧ (∃ old, w3.cell? ⟨sp, 2, none⟩ = some old)) := by
    intro g cap w3 hO hK hg
    have hsz : (wr.alloc (.cells #[.int .i64 x] 3)).heap.size = wr.heap.size + 1 := by simp
    have hK' : Keeps (fun b => hv.ownBlock = some b) wr w3 := ((Keeps.refl _ wr).alloc _).trans hK (fun _ _ h => h)
    have hfp : ∀ k, B.fp k → k < wr.heap.size := fun k hk => h.heap.fp_lt hk
    have hws := h.keeps.size
    have hnear : ∀ k, (Value.slice (some ⟨g, 0, none⟩) (held.length + 1) cap).ownBlock = some k → hv.ownBlock = some k ∨ wr.heap.size ≤ k := by
      intro k hk
      simp [Value.ownBlock] at hk
      subst hk
      rcases hg with h | h
      · exact .inl h
      · right; rw [h, hsz]; omega
    -- the space with its list behind the append
    have hme : w3.heap[sp]? = _ := hK'.at_ h.me (fun e => h.hvSp sp e rfl)
    have hS : SpaceAt w w3 B sp (.slice none 0 0) H [] n ∨ True := .inr trivial
    have hkc : Keeps (fun k => k = sp) w3 (w3.setCell ⟨sp, 2, none⟩ (.slice (some ⟨g, 0, none⟩) (held.length + 1) cap)) := SpaceAt.cellKeep _
    have hgsp : g ≠ sp := by
      rcases hg with e | e
      · exact h.hvSp g e
      · rw [e, hsz]; omega
    refine ⟨⟨?_, h.wf, SpaceAt.heap_set hme _, (Ints.snoc hO).keep hkc (fun k hk e => by simp [Value.ownBlock] at hk; omega), fun y hy => ?_, ?_, h.fpNew, h.spNew, ?_, h.spFp, ?_, ?_⟩, ?_, hnear, ?_, ?_⟩
    · exact (h.heap.keep hK' (fun k hk e => h.hvFp k e hk)).keep hkc (fun k hk e => h.spFp (e ▸ hk))
    · rcases List.mem_append.1 hy with h1 | h1
      · exact h.lits y h1
      · rw [List.mem_singleton] at h1; rw [h1]; exact hx
    · exact (h.keeps.trans hK' (fun k hk e => by have := h.hvNew k e; omega)).trans hkc (fun k hk e => by have := h.spNew; omega)
    · intro k hk
      rcases hnear k hk with e | e
      · exact h.hvNew k e
      · omega
    · intro k hk hf
      rcases hnear k hk with e | e
      · exact h.hvFp k e hf
      · have := hfp k hf; omega
    · intro k hk
      rcases hnear k hk with e | e
      · exact h.hvSp k e
      · omega
    · exact (hK'.mono (fun k _ e => .inr (.inr e))).trans hkc (fun k _ e => .inr (.inl e))
    · simp [World.frozen?, hme]
    · exact ⟨_, by simp only [World.cell?, hme]; rfl⟩
  clear h
  rcases hcase with ⟨rfl, rfl⟩ | ⟨ad, c, rfl⟩
  all_goals
    go_enter Try.func23, Try.ntmps23
    go_wp2_with (at_builtin; go_loud (refine wpList_app1 _ rfl _ _ 22 rfl 3 i0 (.int .i64 0) 8 Try.underlying_ints hi hz0 hz1 hz2 rfl (by decide) _ _ _ rfl (HI.out.alloc _) _ 1 (.int .i64 x) rfl (by simp) rfl (by first | omega | (simp; done)) ?_; intro g cap w3 hO3 hK3 hg3; obtain ⟨hA, hB, hC, hD, old, hE⟩ := HFIN.out g cap w3 hO3 hK3 hg3; have HA := Lib.hid hA; have HB2 := Lib.hid hB; have HC := Lib.hid hC; clear hA hB hC hO3 hK3 hg3))
    refine bodyPost_end (v := .tuple #[]) (results_none rfl _ _ _) rfl ?_
    exact ⟨rfl, _, HA.out, HB2.out, HC.out⟩

set_option maxRecDepth 100000 in
set_option maxHeartbeats 1000000 in
theorem drop_calls {w wr : World} {B : HB} {sp : Nat} {hv : Value} {H : HS} {held : List Int} {n : Nat} (h : SpaceAt w wr B sp hv H held n) (x : Int) (K : Nat) (hK : (K : Int) = min (max 0 x) held.length) (hl : held.length ≤ 10000000) :
    Calls Try.prog 24 #[.pointer (some ⟨sp, 0, none⟩), .int .i64 x] wr fun e w' => e = .returned (.tuple #[]) ∧ ∃ hv', Hid (SpaceAt w w' B sp hv' H (held.take (held.length - K)) n ∧ Keeps (SpF B sp hv) wr w' ∧ Near wr hv hv') := by
  have hc2 := h.c2
  have hc2d : wr.drew.cell? _ = _ := (h.drewN 1).c2
  have hfr := h.free
  have hfrd := (h.drewN 1).free
  have hfrd' : ∀ i, wr.drew.frozen? ⟨sp, i, none⟩ = false := hfrd
  have hsp := h.spLt
  have H0 := Lib.hid h
  have hKl : K ≤ held.length := by omega
  rcases h.ints with ⟨rfl, hn0⟩ | ⟨g, cap, cur, rfl, hg, h1, h2, h3, h4⟩
  · have e : held = [] := List.eq_nil_of_length_eq_zero hn0
    subst e
    obtain ⟨M, hM⟩ : ∃ M, (if 0 < x then x else 0) = M := ⟨_, rfl⟩
    have hw0 : IntKind.i64.wrap 0 = 0 := by decide
    have hmn : (if (0 : Int) < M then 0 else M) = 0 := by
      rw [← hM]; split <;> split at * <;> omega
    have HN : Hid (∀ m, SpaceAt w (wr.drew.setCell ⟨sp, 2, none⟩ (.slice none 0 0)) B sp (.slice none 0 0) H (List.take m ([] : List Int)) n ∧ Keeps (SpF B sp (.slice none 0 0)) wr (wr.drew.setCell ⟨sp, 2, none⟩ (.slice none 0 0)) ∧ Near wr (.slice none 0 0) (.slice none 0 0)) := by
      intro m
      rw [List.take_nil]
      exact ⟨(h.drewN 1).listed (Ints.nil _) (fun y hy => by simp at hy) (fun g hg => by simp [Value.ownBlock] at hg), (Keeps.refl (SpF B sp (.slice none 0 0)) wr).drew.setCell (fun _ => .inr (.inl rfl)) _, Near.refl _ _⟩
    clear hK h
    go_enter Try.func24, Try.ntmps24
    go_wp2_with fail
    refine wp_region_still_tail 22 (by kernel_rfl) (by kernel_rfl) ?_
    change wpStill _ _ (World.drew _) _ _ _
    simp only [List.take_succ_cons, List.take_zero, List.drop_succ_cons, List.drop_zero]
    repeat still_step
    refine wpStill_nil ?_
    change wpList _ _ _ _ _ (World.drew _)
    go_wp2
    refine bodyPost_end (v := .tuple #[]) (results_none rfl _ _ _) rfl ?_
    exact ⟨rfl, _, HN.out _⟩
  · obtain ⟨M, hM⟩ : ∃ M, (if 0 < x then x else 0) = M := ⟨_, rfl⟩
    have hmn : (if (held.length : Int) < M then (held.length : Int) else M) = (K : Int) := by
      rw [hK, ← hM]; split <;> split at * <;> omega
    have hsub : IntKind.i64.wrap ((held.length : Int) - (K : Int)) = ((held.length - K : Nat) : Int) := by
      rw [IntKind.wrap_i64]; omega
    clear hK
    have hle1 : held.length - K ≤ held.length := by omega
    have hle2 : held.length - K ≤ cap := by omega
    have HN : Hid (SpaceAt w (wr.drew.setCell ⟨sp, 2, none⟩ (.slice (some ⟨g, 0, none⟩) (held.length - K) cap)) B sp (.slice (some ⟨g, 0, none⟩) (held.length - K) cap) H (held.take (held.length - K)) n ∧ Keeps (SpF B sp (.slice (some ⟨g, 0, none⟩) held.length cap)) wr (wr.drew.setCell ⟨sp, 2, none⟩ (.slice (some ⟨g, 0, none⟩) (held.length - K) cap)) ∧ Near wr (.slice (some ⟨g, 0, none⟩) held.length cap) (.slice (some ⟨g, 0, none⟩) (held.length - K) cap)) := by
      have hlen : (held.take (held.length - K)).length = held.length - K := by rw [List.length_take]; omega
      refine ⟨(h.drewN 1).listed ?_ (fun y hy => h.lits y (List.mem_of_mem_take hy)) (fun k hk => ?_), (Keeps.refl (SpF B sp (.slice (some ⟨g, 0, none⟩) held.length cap)) wr).drew.setCell (fun _ => .inr (.inl rfl)) _, fun k hk => .inl hk⟩
      · refine .inr ⟨g, cap, cur, by rw [hlen], hg, by omega, h2, h3, fun i hi => ?_⟩
        rw [hlen] at hi
        rw [h4 i (by omega)]
        simp only [List.getD_eq_getElem?_getD, List.getElem?_take, if_pos hi]
      · exact ⟨h.hvNew k hk, h.hvFp k hk, h.hvSp k hk⟩
    generalize hD : held.length - K = D at *
    unfold maxLen at h2
    clear h
    go_enter Try.func24, Try.ntmps24
    go_wp2_with fail
    refine wp_region_still_tail 22 (by kernel_rfl) (by kernel_rfl) ?_
    change wpStill _ _ (World.drew _) _ _ _
    simp only [List.take_succ_cons, List.take_zero, List.drop_succ_cons, List.drop_zero]
    repeat still_step
    refine wpStill_nil ?_
    change wpList _ _ _ _ _ (World.drew _)
    go_wp2
    refine bodyPost_end (v := .tuple #[]) (results_none rfl _ _ _) rfl ?_
    exact ⟨rfl, _, HN.out⟩
end Go.Proofs.Ytnbiofcfphpikaa
