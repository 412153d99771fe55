/-
  append inside a region that draws its order.
-/
import Derived.Test.YtnbiofcfphpikaaA15
import Derived.Deep.RegionLaw
namespace Go.Proofs.Ytnbiofcfphpikaa
open Go.RowKit

/-- append of one element, as a step. -/
theorem step_app1 {P : Program} {ops : Array Oper} {o : Oper} {a : Act} {w : World} {K : Act → World → Prop} {Q : Exit → Act → World → Prop} {E : Prop} (hg : o.guard = none) (s x : Operand) (t : TypeId)
    (ho : o.op = .call { callee := .builtin .append, args := #[s, x], argTypes := #[t, t] })
    (e : TypeId) (i : TypeInfo) (z : Value) (bytes : Nat) (ht : P.underlying t = some (.slice e)) (hi : P.info? e = some i) (hz : i.zero = some z)
    (hsize : i.size = 1) (hby : i.bytes = bytes) (hzs : z.cells.size = 1) (hb8 : bytes ≤ 64)
    (v : Value) (n : Nat) (f : Nat → Value) (hs : a.eval s = v) (hown : Own w e v n f) (ad : Addr) (c : Nat) (u : Value) (hx : a.eval x = .slice (some ad) 1 c) (hu : w.cell? ad = some u) (h1 : u.oneCell' = true) (hn : n ≤ 1000000000000)
    (h : ∀ g cap w', Own w' e (.slice (some ⟨g, 0, none⟩) (n + 1) cap) (n + 1) (setf f n u) → Keeps (fun k => v.ownBlock = some k) w w' → (v.ownBlock = some g ∨ g = w.heap.size) → K (a.put o.dst (.slice (some ⟨g, 0, none⟩) (n + 1) cap)) w') :
    if Region.wanted o (yielded ops a.tmps) = true then Oper.wp P o a w K Q else E := by
  have hw : Region.wanted o (yielded ops a.tmps) = true := by simp [Region.wanted, hg]
  rw [if_pos hw]
  exact wp_app1 w s x t ho e i z bytes ht hi hz hsize hby hzs hb8 v n f hs hown ad c u hx hu h1 hn h
/-- append of a whole slice onto one that is not nil. -/
theorem step_appN {ops : Array Oper} {o : Oper} {a : Act} {w : World} {K : Act → World → Prop} {Q : Exit → Act → World → Prop} {E : Prop} {b n c : Nat} {x : Value} {l l2 : List Int} {i0 : TypeInfo} (hi : Try.prog.info? 3 = some i0) (hz : i0.zero = some (.int .i64 0)) (h1 : i0.size = 1) (h8 : i0.bytes = 8)
    (hg : o.guard = none) (s y : Operand)
    (ho : o.op = .call { callee := .builtin .append, args := #[s, y], argTypes := #[ (22 : Nat) , (22 : Nat) ] })
    (hs : a.eval s = .slice (some ⟨b, 0, none⟩) n c) (hy : a.eval y = x) (B : Nat) (hI : Ints w (.slice (some ⟨b, 0, none⟩) n c) l) (hf : B ≤ b) (hsz : B ≤ w.heap.size) (hX : Src w x l2) (hn : l.length + l2.length ≤ 1000000000000)
    (h : ∀ g cap w', Ints w' (.slice (some ⟨g, 0, none⟩) (l ++ l2).length cap) (l ++ l2) → B ≤ g → Keeps (fun k => k = b) w w' → K (a.put o.dst (.slice (some ⟨g, 0, none⟩) (l ++ l2).length cap)) w') :
    if Region.wanted o (yielded ops a.tmps) = true then Oper.wp Try.prog o a w K Q else E := by
  have hw : Region.wanted o (yielded ops a.tmps) = true := by simp [Region.wanted, hg]
  rw [if_pos hw]
  obtain ⟨v', w', hr, h2, h3, h4, h5⟩ := run_appB o.type hi hz h1 h8 B hI (fun g hg => by simp [Value.ownBlock] at hg; omega) hsz hX hn
  rcases (id h2 : Ints w' v' (l ++ l2)) with ⟨e, -⟩ | ⟨g, cap, cur, rfl, -⟩
  · exact absurd (h5 e) (by simp)
  · unfold Oper.wp execOp
    simp only [ho, resolve, invoke, builtin, Sem.run_bind, Sem.run_pure, Result.andThen_ok, List.map_toArray, List.map_cons, List.map_nil, hs, hy, hr]
    exact h g cap w' h2 (h3 g rfl) (h4.mono fun k _ hk => by simp [Value.ownBlock] at hk; omega)
theorem Ints.empty2 (w : World) (o : Obj) : Ints ((w.alloc o).alloc (.cells #[] 3)) (.slice (some ⟨w.heap.size + 1, 0, none⟩) 0 0) [] := by
  have := Ints.empty (w.alloc o)
  rwa [show (w.alloc o).heap.size = w.heap.size + 1 by simp] at this
/-- A slice of structs of c integers that came in. -/
def ArgK (w : World) (a : Option Addr) (len c : Nat) (f : Nat → Nat → Int) : Prop :=
  len = 0 ∨ ∃ b o, a = some ⟨b, o, none⟩ ∧ ∀ i, i < len → ∀ j, j < c → w.cell? ⟨b, o + i * c + j, none⟩ = some (.int .i64 (f i j))
theorem ArgK.get {w : World} {a : Option Addr} {len c : Nat} {f : Nat → Nat → Int} (h : ArgK w a len c f) {k : Nat} (hk : k < len) : ∃ b o, a = some ⟨b, o, none⟩ ∧ ∀ j, j < c → w.cell? ⟨b, o + k * c + j, none⟩ = some (.int .i64 (f k j)) := by
  rcases h with h | ⟨b, o, h1, h2⟩
  · omega
  · exact ⟨b, o, h1, h2 k hk⟩
theorem ArgK.keep {w w' : World} {a : Option Addr} {len c : Nat} {f : Nat → Nat → Int} (h : ArgK w a len c f) (hk : Keeps (fun _ => False) w w') : ArgK w' a len c f := by
  rcases h with h | ⟨b, o, h1, h2⟩
  · exact .inl h
  · exact .inr ⟨b, o, h1, fun i hi j hj => hk.cell0 (h2 i hi j hj)⟩
/-- What leaves the space's blocks alone, and other blocks beside. -/
theorem SpA.move {w wr w' : World} {R R' G : Nat → Prop} {sp N : Nat} {M : Mp} {held : List Int} {n F : Nat} (h : SpA w wr R sp N M held n F) (hk : Keeps G wr w') (hG : ∀ k, G k → k < wr.heap.size → R k ∧ w.heap.size ≤ k)
    (hR : ∀ k, R' k → (R k ∨ wr.heap.size ≤ k) ∧ k < w'.heap.size) : SpA w w' R' sp N M held n F := by
  have h' := h.other hk hG
  obtain ⟨B, hv, H, h1, h2, h3, h4, h5, h6⟩ := h
  have hfp : ∀ k, B.fp k → k < wr.heap.size := fun k hk => h1.heap.fp_lt hk
  have hhv : ∀ k, hv.ownBlock = some k → k < wr.heap.size := fun k hk => Own.lt h1.ints k hk
  have hsp := h1.spLt
  refine ⟨B, hv, H, h1.other hk (fun k hf hg => (h6 k (hG k hg (hfp k hf)).1).1 hf) (fun hg => (h6 sp (hG sp hg hsp).1).2.1 rfl) (fun k he hg => (h6 k (hG k hg (hhv k he)).1).2.2.1 he) (fun k hk' hg => ?_), h2, h3, h4, h5, fun k hk' => ?_⟩
  · have := h1.keeps.size
    have := (hG k hg (by omega)).2
    omega
  · have hr := hR k hk'
    rcases hr.1 with hr1 | hr1
    · have := h6 k hr1
      exact ⟨this.1, this.2.1, this.2.2.1, hr.2⟩
    · exact ⟨fun hf => by have := hfp k hf; omega, by omega, fun he => by have := hhv k he; omega, hr.2⟩

theorem ofNats_snoc (l : List Nat) (x : Nat) : ofNats (l ++ [x]) = ofNats l ++ [(x : Int)] := by unfold ofNats; simp
end Go.Proofs.Ytnbiofcfphpikaa
