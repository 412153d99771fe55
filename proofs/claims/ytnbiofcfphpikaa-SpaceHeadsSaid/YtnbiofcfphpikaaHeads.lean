/-
  SpaceHeads: the state.
-/
import Derived.Test.YtnbiofcfphpikaaRow3
namespace Go.Proofs.Ytnbiofcfphpikaa
open Go.RowKit

structure Sh (w wr : World) (sp : Nat) (av wv : Value) (M : Mp) (l : List Nat) (F : Nat) (xs : List Value) : Prop where
  sa : SpA w wr (fun k => av.ownBlock = some k ∨ wv.ownBlock = some k) sp 512 M (ofNats l) 0 F
  ia : Ints wr av (ofNats l)
  iw : wr.ownsRow w.heap.size 34 3 wv l.length xs
  fr : ∀ g, av.ownBlock = some g → w.heap.size ≤ g
  bl : ∀ i, i < l.length → ∃ (k : Int) (s : Nat) (m : Int), M (l.getD i 0) = some ⟨k, s, m, fun _ => 0⟩ ∧ xs[3 * i]? = some (.int .i64 k) ∧ xs[3 * i + 1]? = some (.int .i64 s) ∧ xs[3 * i + 2]? = some (.int .i64 m)
def ShS (w wr : World) (sp : Nat) (av wv : Value) (j : Nat) : Prop := ∃ M l F xs, Sh w wr sp av wv M l F xs ∧ F ≤ 1 + 8 * j ∧ l.length ≤ j

/-- With the block of the element beside. -/
structure ShB (w wr : World) (q : Nat) (sp : Nat) (av wv : Value) (M : Mp) (l : List Nat) (held : List Int) (F : Nat) (xs : List Value) (c0 c1 c2 : Int) : Prop where
  sa : SpA w wr (fun k => (av.ownBlock = some k ∨ wv.ownBlock = some k) ∨ k = q) sp 512 M held 0 F
  ia : Ints wr av (ofNats l)
  iw : wr.ownsRow w.heap.size 34 3 wv l.length xs
  fr : ∀ g, av.ownBlock = some g → w.heap.size ≤ g
  q0 : wr.cell? ⟨q, 0, none⟩ = some (.int .i64 c0)
  q1 : wr.cell? ⟨q, 1, none⟩ = some (.int .i64 c1)
  q2 : wr.cell? ⟨q, 2, none⟩ = some (.int .i64 c2)
  qlt : q < wr.heap.size

section
variable {w wr : World} {q sp : Nat} {av wv : Value} {M : Mp} {l : List Nat} {held : List Int} {F : Nat} {xs : List Value} {c0 c1 c2 : Int}
theorem Sh.boxed (h : Sh w wr sp av wv M l F xs) (c0 c1 c2 : Int) (t : TypeId) : ShB w (wr.alloc (.cells #[.int .i64 c0, .int .i64 c1, .int .i64 c2] t)) wr.heap.size sp av wv M l (ofNats l) F xs c0 c1 c2 := by
  refine ⟨h.sa.add ((Keeps.refl _ _).alloc _) (fun k hk => hk.imp id (fun e => ⟨by omega, by subst e; simp⟩)), h.ia.alloc _, h.iw.alloc _, h.fr, ?_, ?_, ?_, by simp⟩
  · exact World.cell?_alloc_new wr #[.int .i64 c0, .int .i64 c1, .int .i64 c2] t 0
  · exact World.cell?_alloc_new wr #[.int .i64 c0, .int .i64 c1, .int .i64 c2] t 1
  · exact World.cell?_alloc_new wr #[.int .i64 c0, .int .i64 c1, .int .i64 c2] t 2
theorem ShB.to (h : ShB w wr q sp av wv M l held F xs c0 c1 c2) {w' : World} {M' : Mp} {held' : List Int} {F' : Nat} (hS : SpA w w' (fun k => (av.ownBlock = some k ∨ wv.ownBlock = some k) ∨ k = q) sp 512 M' held' 0 F')
    (hk : Keeps (fun k => ¬ ((av.ownBlock = some k ∨ wv.ownBlock = some k) ∨ k = q)) wr w') : ShB w w' q sp av wv M' l held' F' xs c0 c1 c2 := by
  refine ⟨hS, h.ia.keep hk (fun k hk hn => hn (.inl (.inl hk))), ?_, h.fr, hk.cell h.q0 (fun hn => hn (.inr rfl)), hk.cell h.q1 (fun hn => hn (.inr rfl)), hk.cell h.q2 (fun hn => hn (.inr rfl)), Nat.lt_of_lt_of_le h.qlt hk.size⟩
  have hl := h.iw.lt
  rcases h.iw with ⟨hx, h0⟩
  refine ⟨hx, ?_⟩
  rcases h0 with h0 | ⟨g, cap, cur, e, hb, hg, rest⟩
  · exact .inl h0
  · refine .inr ⟨g, cap, cur, e, hb, hk.at_ hg (fun hn => hn (.inl (.inr (by rw [e]; rfl)))), rest⟩
theorem ShB.st (h : ShB w wr q sp av wv M l held F xs c0 c1 c2) : St w.heap.size wr av wv wr av (ofNats l) wv l.length xs := St.start h.ia h.iw
theorem ShB.back (h : ShB w wr q sp av wv M l (ofNats l) F xs c0 c1 c2) (hb : ∀ i, i < l.length → ∃ (k : Int) (s : Nat) (m : Int), M (l.getD i 0) = some ⟨k, s, m, fun _ => 0⟩ ∧ xs[3 * i]? = some (.int .i64 k) ∧ xs[3 * i + 1]? = some (.int .i64 s) ∧ xs[3 * i + 2]? = some (.int .i64 m)) : Sh w wr sp av wv M l F xs :=
  ⟨h.sa.sub (fun k hk => .inl hk), h.ia, h.iw, h.fr, hb⟩
/-- Behind Make, Hold and the two appends. -/
theorem ShB.next {w6 : World} {a g1 cap1 g2 cap2 n1 n2 : Nat} {k m : Int} {s : Nat} (h : ShB w wr q sp av wv (setf M a (some ⟨k, s, m, fun _ => 0⟩)) l (ofNats l ++ [(a : Int)]) F xs c0 c1 c2)
    (hM : M a = none) (hb : ∀ i, i < l.length → ∃ (k : Int) (s : Nat) (m : Int), M (l.getD i 0) = some ⟨k, s, m, fun _ => 0⟩ ∧ xs[3 * i]? = some (.int .i64 k) ∧ xs[3 * i + 1]? = some (.int .i64 s) ∧ xs[3 * i + 2]? = some (.int .i64 m))
    (hS : St w.heap.size wr av wv w6 (.slice (some ⟨g1, 0, none⟩) n1 cap1) (ofNats l ++ [(a : Int)]) (.slice (some ⟨g2, 0, none⟩) n2 cap2) (l.length + 1) (xs ++ [.int .i64 k, .int .i64 s, .int .i64 m])) :
    Sh w w6 sp (.slice (some ⟨g1, 0, none⟩) n1 cap1) (.slice (some ⟨g2, 0, none⟩) n2 cap2) (setf M a (some ⟨k, s, m, fun _ => 0⟩)) (l ++ [a]) F (xs ++ [.int .i64 k, .int .i64 s, .int .i64 m]) := by
  have hws := h.sa.keeps.size
  have hxl := h.iw.1
  refine ⟨?_, by rw [ofNats_snoc]; exact hS.ia, by rw [List.length_append]; exact hS.iw, fun g hg => ?_, fun i hi => ?_⟩
  · rw [ofNats_snoc]
    refine h.sa.move hS.k (fun k hk hlt => ?_) (fun k hk => ?_)
    · rcases hk with e | e | e
      · exact ⟨.inl (.inl e), h.fr k e⟩
      · exact ⟨.inl (.inr e), (h.iw.lt k e).1⟩
      · omega
    · rcases hk with e | e
      · refine ⟨?_, hS.aLt k e⟩
        rcases hS.fa k e with h1 | h1
        · exact .inl (.inl (.inl h1))
        · exact .inr h1
      · refine ⟨?_, hS.wLt k e⟩
        rcases hS.fw k e with h1 | h1
        · exact .inl (.inl (.inr h1))
        · exact .inr h1
  · rcases hS.fa g hg with h1 | h1
    · exact h.fr g h1
    · omega
  · by_cases e : i < l.length
    · obtain ⟨k', s', m', h1, h2, h3, h4⟩ := hb i e
      refine ⟨k', s', m', ?_, ?_, ?_, ?_⟩
      · rw [List.getD_eq_getElem?_getD, List.getElem?_append_left e, ← List.getD_eq_getElem?_getD, setf_ne _ _ (fun e2 => by rw [e2, hM] at h1; cases h1)]
        exact h1
      · rw [List.getElem?_append_left (by omega)]; exact h2
      · rw [List.getElem?_append_left (by omega)]; exact h3
      · rw [List.getElem?_append_left (by omega)]; exact h4
    · rw [List.length_append] at hi
      simp at hi
      obtain rfl : i = l.length := by omega
      refine ⟨k, s, m, ?_, ?_, ?_, ?_⟩
      · rw [List.getD_eq_getElem?_getD, List.getElem?_append_right (by omega)]
        simp [setf_same]
      · rw [List.getElem?_append_right (by omega), show 3 * l.length - xs.length = 0 by omega]; rfl
      · rw [List.getElem?_append_right (by omega), show 3 * l.length + 1 - xs.length = 1 by omega]; rfl
      · rw [List.getElem?_append_right (by omega), show 3 * l.length + 2 - xs.length = 2 by omega]; rfl
end
end Go.Proofs.Ytnbiofcfphpikaa
