/-
  The walks of make and same; what a step starts from.
-/
import Derived.Test.YtnbiofcfphpikaaApp
import Derived.Deep.RegionLaw
import Derived.Test.YtnbiofcfphpikaaPTw1
namespace Go.Proofs.Ytnbiofcfphpikaa
open Go.RowKit

/-- append of one element, as a step. -/
theorem step_app1 {P : Program} {ops : Array Oper} {o : Oper} {a : Act} {w : World} {K : Act → World → Prop} {Q : Exit → Act → World → Prop} {E : Prop} (hg : o.guard = none) (s x : Operand) (t : TypeId)
    (ho : o.op = .call { callee := .builtin .append, args := #[s, x], argTypes := #[t, t] })
    (e : TypeId) (i : TypeInfo) (z : Value) (bytes : Nat) (ht : P.underlying t = some (.slice e)) (hi : P.info? e = some i) (hz : i.zero = some z)
    (hsize : i.size = 1) (hby : i.bytes = bytes) (hzs : z.cells.size = 1) (hb8 : bytes ≤ 64)
    (v : Value) (n : Nat) (f : Nat → Value) (hs : a.eval s = v) (hown : Own w e v n f) (ad : Addr) (c : Nat) (u : Value) (hx : a.eval x = .slice (some ad) 1 c) (hu : w.cell? ad = some u) (h1 : u.oneCell' = true) (hn : n ≤ 1000000000000)
    (h : ∀ g cap w', Own w' e (.slice (some ⟨g, 0, none⟩) (n + 1) cap) (n + 1) (setf f n u) → Keeps (fun k => v.ownBlock = some k) w w' → (v.ownBlock = some g ∨ g = w.heap.size) → K (a.put o.dst (.slice (some ⟨g, 0, none⟩) (n + 1) cap)) w') :
    if Region.wanted o (yielded ops a.tmps) = true then Oper.wp P o a w K Q else E := by
  have hw : Region.wanted o (yielded ops a.tmps) = true := by simp [Region.wanted, hg]
  rw [if_pos hw]
  exact wp_app1 w s x t ho e i z bytes ht hi hz hsize hby hzs hb8 v n f hs hown ad c u hx hu h1 hn h
/-- append of a whole slice onto one that is not nil. -/
theorem step_appN {ops : Array Oper} {o : Oper} {a : Act} {w : World} {K : Act → World → Prop} {Q : Exit → Act → World → Prop} {E : Prop} {b n c : Nat} {x : Value} {l l2 : List Int} {i0 : TypeInfo} (hi : Try.prog.info? 3 = some i0) (hz : i0.zero = some (.int .i64 0)) (h1 : i0.size = 1) (h8 : i0.bytes = 8)
    (hg : o.guard = none) (s y : Operand)
    (ho : o.op = .call { callee := .builtin .append, args := #[s, y], argTypes := #[ (22 : Nat) , (22 : Nat) ] })
    (hs : a.eval s = .slice (some ⟨b, 0, none⟩) n c) (hy : a.eval y = x) (B : Nat) (hI : Ints w (.slice (some ⟨b, 0, none⟩) n c) l) (hf : B ≤ b) (hsz : B ≤ w.heap.size) (hX : Src w x l2) (hn : l.length + l2.length ≤ 1000000000000)
    (h : ∀ g cap w', Ints w' (.slice (some ⟨g, 0, none⟩) (l ++ l2).length cap) (l ++ l2) → B ≤ g → Keeps (fun k => k = b) w w' → K (a.put o.dst (.slice (some ⟨g, 0, none⟩) (l ++ l2).length cap)) w') :
    if Region.wanted o (yielded ops a.tmps) = true then Oper.wp Try.prog o a w K Q else E := by
  have hw : Region.wanted o (yielded ops a.tmps) = true := by simp [Region.wanted, hg]
  rw [if_pos hw]
  obtain ⟨v', w', hr, h2, h3, h4, h5⟩ := run_appB o.type hi hz h1 h8 B hI (fun g hg => by simp [Value.ownBlock] at hg; omega) hsz hX hn
  rcases (id h2 : Ints w' v' (l ++ l2)) with ⟨e, -⟩ | ⟨g, cap, cur, rfl, -⟩
  · exact absurd (h5 e) (by simp)
  · unfold Oper.wp execOp
    simp only [ho, resolve, invoke, builtin, Sem.run_bind, Sem.run_pure, Result.andThen_ok, List.map_toArray, List.map_cons, List.map_nil, hs, hy, hr]
    exact h g cap w' h2 (h3 g rfl) (h4.mono fun k _ hk => by simp [Value.ownBlock] at hk; omega)
theorem Ints.empty2 (w : World) (o : Obj) : Ints ((w.alloc o).alloc (.cells #[] 3)) (.slice (some ⟨w.heap.size + 1, 0, none⟩) 0 0) [] := by
  have := Ints.empty (w.alloc o)
  rwa [show (w.alloc o).heap.size = w.heap.size + 1 by simp] at this
end Go.Proofs.Ytnbiofcfphpikaa

namespace Go.Proofs.Ytnbiofcfphpikaa
open Go.RowKit

section
variable {w : World}
/-- append of one block, as a step. -/
theorem step_appTB {ops : Array Oper} {o : Oper} {a : Act} {K : Act → World → Prop} {Q : Exit → Act → World → Prop} {E : Prop} (hgd : o.guard = none) (s x : Operand)
    (ho : o.op = .call { callee := .builtin .append, args := #[s, x], argTypes := #[ (44 : Nat) , (44 : Nat) ] })
    (v : Value) (L : List TB) (hs : a.eval s = v) (hown : w.ownsRow 0 99 5 v L.length (lball (lbs L))) (b c : Nat) (y : TB) (fr : Nat × Nat) (hx : a.eval x = .slice (some ⟨b, 0, none⟩) 1 c)
    (hb : w.heap[b]? = some (.cells #[.int .i64 (y.a : Nat), .int .i64 y.k, .int .i64 (y.s : Nat), .int .i64 y.m, .slice (some ⟨y.g, 0, none⟩) y.wl y.wl] 99 fr)) (hn : L.length ≤ 1000000000)
    (h : ∀ g cap w', w'.ownsRow 0 99 5 (.slice (some ⟨g, 0, none⟩) (L.length + 1) cap) (L ++ [y]).length (lball (lbs (L ++ [y]))) → Keeps (fun k => v.ownBlock = some k) w w' → (v.ownBlock = some g ∨ g = w.heap.size) → K (a.put o.dst (.slice (some ⟨g, 0, none⟩) (L.length + 1) cap)) w') :
    if Region.wanted o (yielded ops a.tmps) = true then Oper.wp Try.prog o a w K Q else E := by
  obtain ⟨i3, hi3, hy0, hy1, hy2⟩ := info_parts info_lb
  refine step_append_lies w hgd s x 44 ho 0 99 i3 _ 5 56 underlying_lbs hi3 hy0 hy1 hy2 (by rfl) (by omega) v L.length _ hs hown ⟨b, 0, none⟩ 1 c y.lb.cells hx rfl
    (World.news_of_block hb) (lb_one y.lb) (by omega) (by unfold maxLen; omega) (by omega) (Nat.zero_le _) _ rfl ?_
  intro g cap w' hO hG hg _
  refine h g cap w' ?_ (grownBy_keeps hG) hg
  rw [List.length_append, List.length_singleton]
  have e : lbs (L ++ [y]) = lbs L ++ [y.lb] := by simp [lbs]
  rw [e, lball_append, lball_one]
  exact hO
end

namespace Bo
variable {w0 w w' : World} {D : BD}
/-- A block is put behind the list. -/
theorem pushL (h : Bo w0 w D) {y : TB} {Z : Array Value} (hg0 : y.g = w.heap.size) (hrow : Row (w.alloc (.cells Z 3)) w.heap.size 3 .i64 y.wl y.W) {o2 : Obj} {g cap : Nat} {w5 : World}
    (hO : w5.ownsRow 0 99 5 (.slice (some ⟨g, 0, none⟩) (D.L.length + 1) cap) (D.L ++ [y]).length (lball (lbs (D.L ++ [y])))) (hK : Keeps (fun b => D.lv.ownBlock = some b) ((w.alloc (.cells Z 3)).alloc o2) w5) (hg : D.lv.ownBlock = some g ∨ g = ((w.alloc (.cells Z 3)).alloc o2).heap.size) :
    Bo w0 (w5.setCell ⟨D.tb, 1, none⟩ (.slice (some ⟨g, 0, none⟩) (D.L.length + 1) cap)) { D with lv := .slice (some ⟨g, 0, none⟩) (D.L.length + 1) cap, L := D.L ++ [y] } ∧ w5.cell? ⟨D.tb, 1, none⟩ = some D.lv ∧ w5.frozen? ⟨D.tb, 1, none⟩ = false := by
  have hs1 : (w.alloc (.cells Z 3)).heap.size = w.heap.size + 1 := by simp
  have hs2 : ((w.alloc (.cells Z 3)).alloc o2).heap.size = w.heap.size + 2 := by simp
  have hK' : Keeps (fun b => D.lv.ownBlock = some b) w w5 := (((Keeps.refl _ w).alloc _).alloc _).trans hK (fun _ _ h => h)
  have htb := h.hi 3 _ rfl
  have hme : w5.heap[D.tb]? = _ := hK'.at_ (h.c 3) (fun e => nomatch h.ne 5 3 _ e rfl)
  have h5 := hK.size
  have hgn : ∀ k, D.lv.ownBlock = some k → k < w.heap.size := fun k hk => h.hi 5 k hk
  refine ⟨h.setList hK' (fun k hf _ => hf) hO (fun k hk => ?_) (fun x hx => ?_) ?_, ?_, ?_⟩
  · simp [Value.ownBlock] at hk
    subst hk
    rcases hg with e | e
    · exact .inl e
    · exact .inr (by omega)
  · rcases List.mem_append.1 hx with hx | hx
    · exact .inl hx
    · simp at hx
      subst hx
      refine .inr ⟨by omega, by omega, fun e => ?_, ?_⟩
      · simp [Value.ownBlock] at e
        rcases hg with e' | e'
        · have := hgn _ e'; omega
        · omega
      · rw [hg0]
        exact (hrow.alloc o2).keep hK (fun e => by have := hgn _ e; omega)
  · rw [List.map_append, List.nodup_append]
    refine ⟨h.gs, by simp, fun a ha b hb e => ?_⟩
    obtain ⟨x, hx, rfl⟩ := List.mem_map.1 ha
    simp at hb
    have := h.hi 6 x.g ⟨x, hx, rfl⟩
    omega
  · simp only [World.cell?, hme]; rfl
  · simp [World.frozen?, hme]
theorem pushA (h : Bo w0 w D) {x : Int} {o : Obj} {g cap : Nat} {w5 : World} (hO : Own w5 3 (.slice (some ⟨g, 0, none⟩) (D.all.length + 1) cap) (D.all.length + 1) (setf (fun i => .int .i64 (D.all.getD i 0)) D.all.length (.int .i64 x)))
    (hK : Keeps (fun b => D.av.ownBlock = some b) (w.alloc o) w5) (hg : D.av.ownBlock = some g ∨ g = (w.alloc o).heap.size) :
    Bo w0 (w5.setCell ⟨D.tb, 2, none⟩ (.slice (some ⟨g, 0, none⟩) (D.all.length + 1) cap)) { D with av := .slice (some ⟨g, 0, none⟩) (D.all.length + 1) cap, all := D.all ++ [x] } ∧ w5.cell? ⟨D.tb, 2, none⟩ = some D.av ∧ w5.frozen? ⟨D.tb, 2, none⟩ = false := by
  have hs1 : (w.alloc o).heap.size = w.heap.size + 1 := by simp
  have hK' : Keeps (fun b => D.av.ownBlock = some b) w w5 := ((Keeps.refl _ w).alloc _).trans hK (fun _ _ h => h)
  have hme : w5.heap[D.tb]? = _ := hK'.at_ (h.c 3) (fun e => nomatch h.ne 7 3 _ e rfl)
  refine ⟨h.setAll hK' (fun k hf _ => hf) (Ints.snoc hO) (fun k hk => ?_), ?_, ?_⟩
  · simp [Value.ownBlock] at hk
    subst hk
    rcases hg with e | e
    · exact .inl e
    · exact .inr (by omega)
  · simp only [World.cell?, hme]; rfl
  · simp [World.frozen?, hme]
theorem pushH (h : Bo w0 w D) {x : Int} {o : Obj} {g cap : Nat} {w5 : World} (hO : Own w5 3 (.slice (some ⟨g, 0, none⟩) (D.thd.length + 1) cap) (D.thd.length + 1) (setf (fun i => .int .i64 (D.thd.getD i 0)) D.thd.length (.int .i64 x)))
    (hK : Keeps (fun b => D.tv.ownBlock = some b) (w.alloc o) w5) (hg : D.tv.ownBlock = some g ∨ g = (w.alloc o).heap.size) :
    Bo w0 (w5.setCell ⟨D.tb, 3, none⟩ (.slice (some ⟨g, 0, none⟩) (D.thd.length + 1) cap)) { D with tv := .slice (some ⟨g, 0, none⟩) (D.thd.length + 1) cap, thd := D.thd ++ [x] } ∧ w5.cell? ⟨D.tb, 3, none⟩ = some D.tv ∧ w5.frozen? ⟨D.tb, 3, none⟩ = false := by
  have hs1 : (w.alloc o).heap.size = w.heap.size + 1 := by simp
  have hK' : Keeps (fun b => D.tv.ownBlock = some b) w w5 := ((Keeps.refl _ w).alloc _).trans hK (fun _ _ h => h)
  have hme : w5.heap[D.tb]? = _ := hK'.at_ (h.c 3) (fun e => nomatch h.ne 8 3 _ e rfl)
  refine ⟨h.setHeld hK' (fun k hf _ => hf) (Ints.snoc hO) (fun k hk => ?_), ?_, ?_⟩
  · simp [Value.ownBlock] at hk
    subst hk
    rcases hg with e | e
    · exact .inl e
    · exact .inr (by omega)
  · simp only [World.cell?, hme]; rfl
  · simp [World.frozen?, hme]
/-- Where a block of the document's heap stands. -/
theorem place (h : Bo w0 w D) {a : Nat} (hr : D.Hr.room a ≠ 0) : ∃ i b rn rcl, i < rn ∧ rn ≤ 1048576 ∧ (∀ q, (w.drewN q).cell? ⟨D.tb, 0, none⟩ = some (.pointer (some ⟨D.rb, 0, none⟩)) ∧ (w.drewN q).cell? ⟨D.rb, 1, none⟩ = some (.slice (some ⟨b, 0, none⟩) rn rcl) ∧ (w.drewN q).cell? ⟨b, i * 3 + 1, none⟩ = some (.int .i64 (D.Hr.room a : Nat))) ∧
    ∀ q, Calls Try.prog 80 #[.pointer (some ⟨D.rb, 0, none⟩), .int .i64 a] (w.drewN q) fun e w' => e = .returned (.int .i64 i) ∧ ∃ m, w' = w.drewN m := by
  have h4 : RefAt w D.rb D.rlv D.rL D.Hr := h.c 4
  have hll := h4.len_le h.rwf
  obtain ⟨al, cl, e, -⟩ := h4.slice
  have c1 := h4.c1
  rcases h4.find_room h.rwf (a : Int) with ⟨e1, -⟩ | ⟨i, hi, ea, ef, er, -⟩
  · rw [HS.roomI_nat] at e1; exact absurd e1 hr
  · rw [e] at h4 c1
    obtain ⟨b, eb, -, -, q1, -⟩ := h4.at_ hi
    subst eb
    rw [HS.roomI_nat] at er
    refine ⟨i, b, D.rL.length, cl, hi, hll, fun q => ⟨h.t0, c1, by rw [er]; exact q1⟩, fun q => ?_⟩
    refine (rfind_calls (h4.drewN q) h.rwf (a : Int)).mono ?_
    rintro e w' ⟨rfl, q2, rfl⟩
    rw [ef]
    exact ⟨rfl, q + q2, by simp [World.drewN, Nat.add_assoc]⟩
/-- What make does behind its Alloc. -/
theorem tailF (h : Bo w0 w D) {a s wl : Nat} {k m : Int} :
    ∃ al cl aa ca, w.drew.cell? ⟨D.tb, 1, none⟩ = some (.slice al D.L.length cl) ∧ (∀ o, (w.alloc o).drew.cell? ⟨D.tb, 1, none⟩ = some (.slice al D.L.length cl)) ∧ (∀ o1 o2, ((w.alloc o1).alloc o2).drew.cell? ⟨D.tb, 1, none⟩ = some (.slice al D.L.length cl)) ∧
      (∀ o1 o2, World.ownsRow ((w.alloc o1).alloc o2).drew 0 99 5 (.slice al D.L.length cl) D.L.length (lball (lbs D.L))) ∧
      (∀ (Z : Array Value), (Z.size = wl ∧ ∀ i, i < wl → Z[i]? = some (.int .i64 0)) → ∀ (o2 : Obj) (g cap : Nat) (w5 : World), w5.ownsRow 0 99 5 (.slice (some ⟨g, 0, none⟩) (D.L.length + 1) cap) (D.L ++ [(⟨a, k, s, m, w.heap.size, wl, fun _ => 0⟩ : TB)]).length (lball (lbs (D.L ++ [⟨a, k, s, m, w.heap.size, wl, fun _ => 0⟩]))) →
        Keeps (fun b => (Value.slice al D.L.length cl).ownBlock = some b) ((w.alloc (.cells Z 3)).alloc o2).drew w5 → ((Value.slice al D.L.length cl).ownBlock = some g ∨ g = ((w.alloc (.cells Z 3)).alloc o2).drew.heap.size) →
        w5.cell? ⟨D.tb, 1, none⟩ = some (.slice al D.L.length cl) ∧ w5.frozen? ⟨D.tb, 1, none⟩ = false ∧ (w5.setCell ⟨D.tb, 1, none⟩ (.slice (some ⟨g, 0, none⟩) (D.L.length + 1) cap)).cell? ⟨D.tb, 2, none⟩ = some (.slice aa D.all.length ca) ∧
        Own (w5.setCell ⟨D.tb, 1, none⟩ (.slice (some ⟨g, 0, none⟩) (D.L.length + 1) cap)) 3 (.slice aa D.all.length ca) D.all.length (fun i => .int .i64 (D.all.getD i 0)) ∧
        (∀ (o3 : Obj) (g2 cap2 : Nat) (w7 : World), Own w7 3 (.slice (some ⟨g2, 0, none⟩) (D.all.length + 1) cap2) (D.all.length + 1) (setf (fun i => .int .i64 (D.all.getD i 0)) D.all.length (.int .i64 (a : Nat))) →
          Keeps (fun b => (Value.slice aa D.all.length ca).ownBlock = some b) ((w5.setCell ⟨D.tb, 1, none⟩ (.slice (some ⟨g, 0, none⟩) (D.L.length + 1) cap)).alloc o3) w7 → ((Value.slice aa D.all.length ca).ownBlock = some g2 ∨ g2 = ((w5.setCell ⟨D.tb, 1, none⟩ (.slice (some ⟨g, 0, none⟩) (D.L.length + 1) cap)).alloc o3).heap.size) →
          w7.cell? ⟨D.tb, 2, none⟩ = some (.slice aa D.all.length ca) ∧ w7.frozen? ⟨D.tb, 2, none⟩ = false ∧
          Bo w0 (w7.setCell ⟨D.tb, 2, none⟩ (.slice (some ⟨g2, 0, none⟩) (D.all.length + 1) cap2)) { D with lv := .slice (some ⟨g, 0, none⟩) (D.L.length + 1) cap, L := D.L ++ [⟨a, k, s, m, w.heap.size, wl, fun _ => 0⟩], av := .slice (some ⟨g2, 0, none⟩) (D.all.length + 1) cap2, all := D.all ++ [(a : Int)] })) := by
  obtain ⟨al, cl, e1, -⟩ := h.rowAt
  obtain ⟨aa, ca, e2, -⟩ := Bo.intsAt (h.c 7)
  have t1 : ∀ {wx : World}, Bo w0 wx D → wx.cell? ⟨D.tb, 1, none⟩ = some (.slice al D.L.length cl) := fun hx => by
    have := hx.t1
    rwa [e1] at this
  refine ⟨al, cl, aa, ca, t1 h.drew, fun o => t1 (h.alloc o).drew, fun o1 o2 => t1 ((h.alloc o1).alloc o2).drew, fun o1 o2 => ?_, fun Z hZ o2 g cap w5 hO hK hg => ?_⟩
  · have hx := ((h.alloc o1).alloc o2).drew
    have h5 : World.ownsRow _ 0 99 5 D.lv D.L.length (lball (lbs D.L)) := hx.c 5
    rw [e1] at h5
    exact h5
  · rw [← e1] at hK hg
    have hb := h.pushL (y := ⟨a, k, s, m, w.heap.size, wl, fun _ => 0⟩) rfl ⟨Z, heap_alloc_new _ _, hZ.1, hZ.2⟩ hO (((Keeps.refl (fun b => D.lv.ownBlock = some b) _).drew).trans hK (fun _ _ h => h)) hg
    obtain ⟨hb1, hb2, hb3⟩ := hb
    rw [e1] at hb2
    have t2 := hb1.t2
    have hI : Own _ 3 D.av D.all.length (fun i => .int .i64 (D.all.getD i 0)) := hb1.c 7
    have t2' : (w5.setCell ⟨D.tb, 1, none⟩ (.slice (some ⟨g, 0, none⟩) (D.L.length + 1) cap)).cell? ⟨D.tb, 2, none⟩ = some D.av := t2
    rw [e2] at hI t2'
    refine ⟨hb2, hb3, t2', hI, fun o3 g2 cap2 w7 hO3 hK3 hg3 => ?_⟩
    rw [← e2] at hK3 hg3
    obtain ⟨c1, c2, c3⟩ := hb1.pushA (x := (a : Int)) hO3 hK3 hg3
    have c2' : w7.cell? ⟨D.tb, 2, none⟩ = some D.av := c2
    rw [e2] at c2'
    exact ⟨c2', c3, c1⟩
end Bo

theorem cellS_new (w : World) (p : Addr) (v u : Value) (T : TypeId) : ((w.setCell p v).alloc (.cells #[u] T)).cell? ⟨w.heap.size, 0, none⟩ = some u := by
  have h := World.cell?_alloc_new (w.setCell p v) #[u] T 0
  rwa [show (w.setCell p v).heap.size = w.heap.size by simp] at h
set_option maxRecDepth 100000 in
set_option maxHeartbeats 4000000 in
theorem Bo.make_bad {w : World} (tb : Nat) (k s m : Int) (hb : ¬ hdrOk k s m) :
    Calls Try.prog 63 #[.pointer (some ⟨tb, 0, none⟩), .int .i64 k, .int .i64 s, .int .i64 m] w fun e w' => e = .returned (.tuple #[.int .i64 0, .bool false]) ∧ w' = w := by
  unfold hdrOk at hb
  have hd : decide (k < 1) = true ∨ (decide (k < 1) = false ∧ decide ((4 : Int) < k) = true) ∨ (decide (k < 1) = false ∧ decide ((4 : Int) < k) = false ∧ decide (s < 0) = true) ∨ (decide (k < 1) = false ∧ decide ((4 : Int) < k) = false ∧ decide (s < 0) = false ∧ decide ((16447 : Int) < s) = true) ∨
      (decide (k < 1) = false ∧ decide ((4 : Int) < k) = false ∧ decide (s < 0) = false ∧ decide ((16447 : Int) < s) = false ∧ decide (m < 0) = true) ∨ (decide (k < 1) = false ∧ decide ((4 : Int) < k) = false ∧ decide (s < 0) = false ∧ decide ((16447 : Int) < s) = false ∧ decide (m < 0) = false ∧ decide ((65535 : Int) < m) = true) := by
    simp only [decide_eq_true_eq, decide_eq_false_iff_not]
    omega
  clear hb
  rcases hd with d1 | ⟨d1, d2⟩ | ⟨d1, d2, d3⟩ | ⟨d1, d2, d3, d4⟩ | ⟨d1, d2, d3, d4, d5⟩ | ⟨d1, d2, d3, d4, d5, d6⟩
  all_goals
    go_enter Try.func63, Try.ntmps63
    go_wp2
    go_ret2
    exact ⟨rfl, rfl⟩

set_option maxRecDepth 100000 in
set_option maxHeartbeats 8000000 in
theorem Bo.make_yes {w0 w : World} {D : BD} (h : Bo w0 w D) (hl : D.L.length ≤ 1000) (hla : D.all.length ≤ 1000) {s a : Nat} {k m : Int} {Hr1 : HS} (hk : hdrOk k s m) (ha : D.Hr.alloc ((s : Int) + 1) = some (a, Hr1)) :
    Calls Try.prog 63 #[.pointer (some ⟨D.tb, 0, none⟩), .int .i64 k, .int .i64 s, .int .i64 m] w fun e w' => e = .returned (.tuple #[.int .i64 a, .bool true]) ∧ ∃ rlv rL lv av g, Hid (Bo w0 w' { D with rlv := rlv, rL := rL, Hr := Hr1, lv := lv, L := D.L ++ [⟨a, k, s, m, g, HS.roomOf (s + 1) - 1, fun _ => 0⟩], av := av, all := D.all ++ [(a : Int)] }) := by
  obtain ⟨i0, hi, hz0, hz1, hz2⟩ := info_parts Try.info_int
  have hadd := (h.rwf.alloc_adds ha).2.2
  rw [show ((s : Int) + 1).toNat = s + 1 by omega] at hadd
  have hge := HS.roomOf_ge (x := s + 1)
  have hbig := (hadd.wf.inside (a := a) (by rw [hadd.is]; exact hadd.pos)).2.2.2.2
  rw [hadd.is] at hbig
  obtain ⟨wl, ewl⟩ : ∃ wl, HS.roomOf (s + 1) = wl + 1 := ⟨HS.roomOf (s + 1) - 1, by omega⟩
  rw [ewl] at hadd hbig
  rw [show HS.roomOf (s + 1) - 1 = wl by omega]
  obtain ⟨Z, hZ, mk⟩ := make_ints wl (by omega)
  have HZ := Lib.hid hZ
  have HRM : Hid (Hr1.room a = wl + 1) := hadd.is
  have hk' := hk
  unfold hdrOk at hk'
  have d1 : decide (k < 1) = false := decide_eq_false (by omega)
  have d2 : decide ((4 : Int) < k) = false := decide_eq_false (by omega)
  have d3 : decide ((s : Int) < 0) = false := decide_eq_false (by omega)
  have d4 : decide ((16447 : Int) < (s : Int)) = false := decide_eq_false (by omega)
  have d5 : decide (m < 0) = false := decide_eq_false (by omega)
  have d6 : decide ((65535 : Int) < m) = false := decide_eq_false (by omega)
  have hs1 : (s : Int) ≤ 16447 := by omega
  have hwl : (wl : Int) ≤ 1048576 := by omega
  have ewl : IntKind.i64.wrap (wl : Int) = (wl : Int) := IntWalk.i64_in _ (by omega)
  have mk2 : ∀ W : World, (Instr.makeSlice 22 (.int .i64 (IntKind.i64.wrap (wl : Int))) (.int .i64 (IntKind.i64.wrap (wl : Int)))).run Try.prog W = .ok (.slice (some ⟨W.heap.size, 0, none⟩) wl wl) (W.alloc (.cells Z 3)) := by rw [ewl]; exact mk
  have hpos : (0 : Int) ≤ (wl : Int) := by omega
  clear ewl
  have c0 := h.t0
  have HAL := Lib.hid (h.ralloc_some ha)
  clear h ha hadd hge hbig ewl hZ hk hk'
  go_enter Try.func63, Try.ntmps63
  go_wp2_with fail
  refine HAL.out.mono ?_
  rintro e w1 ⟨rfl, rlv, rL, hB⟩
  obtain ⟨i, b, rn, rcl, f1, f2, f3, f4⟩ := hB.out.place (a := a) (by show Hr1.room a ≠ 0; have := HRM.out; omega)
  have HFD := Lib.hid f4
  have g1 := fun q => (f3 q).1
  have g2 := fun q => (f3 q).2.1
  have g3 : ∀ q, (w1.drewN q).cell? ⟨b, i * 3 + 1, none⟩ = some (.int .i64 ((wl : Int) + 1)) := fun q => by
    have h1 := (f3 q).2.2
    rwa [show (Hr1.room a) = wl + 1 from HRM.out] at h1
  clear f4 f3 c0 HAL
  go_wp2_with fail
  go_quiet ((go_at_call 80; exact HFD.out _))
  go_wp2_with fail
  have HB2 := Lib.hid (hB.out.drewN nq)
  clear g1 g2 g3 HFD hB
  generalize w1.drewN nq = wy at *
  obtain ⟨al, cl, aa, ca, e1, e2, e3, e4, e5⟩ := HB2.out.tailF (a := a) (s := s) (wl := wl) (k := k) (m := m)
  have HRW := Lib.hid e4
  have HPU := Lib.hid e5
  clear e4 e5 HB2
  go_region_law (refine step_appTB rfl (.tmp 81) (.tmp 90) rfl _ D.L rfl (HRW.out _ _) _ 1 (⟨a, k, s, m, wy.heap.size, wl, fun _ => 0⟩ : TB) _ rfl (alloc2_new _ _ _) (by omega) ?_; intro g cap w5 hO hK hg; obtain ⟨x1, x2, x3, x4, x5⟩ := HPU.out Z HZ.out _ g cap w5 hO hK hg; have HI2 := Lib.hid x4; have HP2 := Lib.hid x5; clear hO hK hg x4 x5)
  all_goals
    go_wp2_with (at_builtin; go_loud (refine wpList_app1 _ rfl _ _ 22 rfl 3 i0 (.int .i64 0) 8 Try.underlying_ints hi hz0 hz1 hz2 rfl (by decide) _ _ _ rfl (HI2.out.alloc _) _ 1 (.int .i64 (a : Nat)) rfl (cellS_new _ _ _ _ _) rfl (by simp only []; omega) ?_); intro g2 cap2 w7 hO3 hK3 hg3; obtain ⟨y1, y2, y3⟩ := HP2.out _ g2 cap2 w7 hO3 hK3 hg3; have HFIN := Lib.hid y3; clear hO3 hK3 hg3 y3)
    go_ret2
    exact ⟨rfl, rlv, rL, _, _, _, HFIN⟩

set_option maxRecDepth 100000 in
set_option maxHeartbeats 8000000 in
theorem Bo.make_gc {w0 w : World} {D : BD} (h : Bo w0 w D) {M : Mp} (tr : TR D.L M D.Hr) (hl : D.L.length ≤ 1000) (hla : D.all.length ≤ 1000) (hf : D.thd.length ≤ 1000) (hHn : D.Hr.n ≤ 16) (hn : D.tn ≤ 100000) {s : Nat} {k m : Int} (hk : hdrOk k s m) (ha : D.Hr.alloc ((s : Int) + 1) = none) :
    Calls Try.prog 63 #[.pointer (some ⟨D.tb, 0, none⟩), .int .i64 k, .int .i64 s, .int .i64 m] w fun e w' => ∃ gone rlv rL Hr lv L', Hid (gone + L'.length = D.L.length ∧ TR L' (mlive M D.thd) Hr ∧ Hr.n = D.Hr.n ∧ Hr.Wf) ∧
      ((Hr.alloc ((s : Int) + 1) = none ∧ e = .returned (.tuple #[.int .i64 0, .bool false]) ∧ Hid (Bo w0 w' (outD D rlv rL Hr lv L'))) ∨
       ∃ (a : Nat) (Hr1 : HS), Hr.alloc ((s : Int) + 1) = some (a, Hr1) ∧ e = .returned (.tuple #[.int .i64 a, .bool true]) ∧ ∃ rlv' rL' lv' av g, Hid (Bo w0 w' { outD D rlv rL Hr lv L' with rlv := rlv', rL := rL', Hr := Hr1, lv := lv', L := L' ++ [⟨a, k, s, m, g, HS.roomOf (s + 1) - 1, fun _ => 0⟩], av := av, all := D.all ++ [(a : Int)] })) := by
  obtain ⟨i0, hi, hz0, hz1, hz2⟩ := info_parts Try.info_int
  have hk' := hk
  unfold hdrOk at hk'
  have d1 : decide (k < 1) = false := decide_eq_false (by omega)
  have d2 : decide ((4 : Int) < k) = false := decide_eq_false (by omega)
  have d3 : decide ((s : Int) < 0) = false := decide_eq_false (by omega)
  have d4 : decide ((16447 : Int) < (s : Int)) = false := decide_eq_false (by omega)
  have d5 : decide (m < 0) = false := decide_eq_false (by omega)
  have d6 : decide ((65535 : Int) < m) = false := decide_eq_false (by omega)
  have hs1 : (s : Int) ≤ 16447 := by omega
  have c0 := h.t0
  have HAL := Lib.hid (h.ralloc_none ha)
  have HTR := Lib.hid tr
  have HBN : Hid (D.L.length ≤ 1000 ∧ D.thd.length ≤ 1000 ∧ D.Hr.n ≤ 16 ∧ D.tn ≤ 100000) := ⟨hl, hf, hHn, hn⟩
  clear h ha tr hk hk' hf hHn hn
  go_enter Try.func63, Try.ntmps63
  go_wp2_with fail
  refine HAL.out.mono ?_
  rintro e w1 ⟨rfl, hB⟩
  have HCO := Lib.hid (hB.out.collect HTR.out HBN.out.1 HBN.out.2.1 HBN.out.2.2.1 HBN.out.2.2.2)
  clear c0 HAL hB
  go_wp2_with fail
  refine HCO.out.mono ?_
  rintro e w2 ⟨gone, rfl, rlv, rL, Hr, lv, L', h2⟩
  have HPL : Hid (gone + L'.length = D.L.length ∧ TR L' (mlive M D.thd) Hr ∧ Hr.n = D.Hr.n ∧ Hr.Wf) := ⟨h2.out.1, h2.out.2.1, h2.out.2.2.1, h2.out.2.2.2.rwf⟩
  have hl2 : L'.length ≤ 1000 := by have := h2.out.1; omega
  have c0 : w2.cell? ⟨D.tb, 0, none⟩ = some (.pointer (some ⟨D.rb, 0, none⟩)) := h2.out.2.2.2.t0
  cases ea : Hr.alloc ((s : Int) + 1) with
  | none =>
    have HAL : Hid (Calls Try.prog 79 #[.pointer (some ⟨D.rb, 0, none⟩), .int .i64 ((s : Int) + 1)] w2 fun e w' => e = .returned (.tuple #[.int .i64 0, .bool false]) ∧ Hid (Bo w0 w' (outD D rlv rL Hr lv L'))) := Bo.ralloc_none (D := outD D rlv rL Hr lv L') h2.out.2.2.2 ea
    have HEA := Lib.hid ea
    clear h2 HCO ea
    go_wp2_with fail
    refine HAL.out.mono ?_
    rintro e w3 ⟨rfl, h3⟩
    go_wp2
    go_ret2
    exact ⟨gone, rlv, rL, Hr, lv, L', HPL, .inl ⟨HEA.out, rfl, h3⟩⟩
  | some r =>
    obtain ⟨a, Hr1⟩ := r
    have hadd := (h2.out.2.2.2.rwf.alloc_adds ea).2.2
    rw [show ((s : Int) + 1).toNat = s + 1 by omega] at hadd
    have hge := HS.roomOf_ge (x := s + 1)
    have hbig := (hadd.wf.inside (a := a) (by rw [hadd.is]; exact hadd.pos)).2.2.2.2
    rw [hadd.is] at hbig
    obtain ⟨wl, ewl⟩ : ∃ wl, HS.roomOf (s + 1) = wl + 1 := ⟨HS.roomOf (s + 1) - 1, by omega⟩
    rw [ewl] at hadd hbig
    have HWL : Hid (HS.roomOf (s + 1) - 1 = wl) := by show _ = _; omega
    obtain ⟨Z, hZ, mk⟩ := make_ints wl (by omega)
    have HZ := Lib.hid hZ
    have HRM : Hid (Hr1.room a = wl + 1) := hadd.is
    have hwl : (wl : Int) ≤ 1048576 := by omega
    have ewl2 : IntKind.i64.wrap (wl : Int) = (wl : Int) := IntWalk.i64_in _ (by omega)
    have mk2 : ∀ W : World, (Instr.makeSlice 22 (.int .i64 (IntKind.i64.wrap (wl : Int))) (.int .i64 (IntKind.i64.wrap (wl : Int)))).run Try.prog W = .ok (.slice (some ⟨W.heap.size, 0, none⟩) wl wl) (W.alloc (.cells Z 3)) := by rw [ewl2]; exact mk
    have hpos : (0 : Int) ≤ (wl : Int) := by omega
    have HAL : Hid (Calls Try.prog 79 #[.pointer (some ⟨D.rb, 0, none⟩), .int .i64 ((s : Int) + 1)] w2 fun e w' => e = .returned (.tuple #[.int .i64 a, .bool true]) ∧ ∃ rlv' rL', Hid (Bo w0 w' { outD D rlv rL Hr lv L' with rlv := rlv', rL := rL', Hr := Hr1 })) := Bo.ralloc_some (D := outD D rlv rL Hr lv L') h2.out.2.2.2 ea
    have HEA := Lib.hid ea
    clear h2 HCO ea hadd hge hbig ewl ewl2 hZ hl
    go_wp2_with fail
    refine HAL.out.mono ?_
    rintro e w1 ⟨rfl, rlv', rL', hB⟩
    unfold outD at hB
    obtain ⟨i, b, rn, rcl, f1, f2, f3, f4⟩ := hB.out.place (a := a) (by show Hr1.room a ≠ 0; have := HRM.out; omega)
    have HFD := Lib.hid f4
    have g1 := fun q => (f3 q).1
    have g2 := fun q => (f3 q).2.1
    have g3 : ∀ q, (w1.drewN q).cell? ⟨b, i * 3 + 1, none⟩ = some (.int .i64 ((wl : Int) + 1)) := fun q => by
      have h1 := (f3 q).2.2
      rwa [show (Hr1.room a) = wl + 1 from HRM.out] at h1
    clear f4 f3 c0 HAL
    go_wp2_with fail
    go_quiet ((go_at_call 80; exact HFD.out _))
    go_wp2_with fail
    have HB2 := Lib.hid (hB.out.drewN nq)
    clear g1 g2 g3 HFD hB
    generalize w1.drewN nq = wy at *
    obtain ⟨al, cl, aa, ca, e1, e2, e3, e4, e5⟩ := HB2.out.tailF (a := a) (s := s) (wl := wl) (k := k) (m := m)
    have HRW := Lib.hid e4
    have HPU := Lib.hid e5
    clear e4 e5 HB2
    go_region_law (refine step_appTB rfl (.tmp 81) (.tmp 90) rfl _ L' rfl (HRW.out _ _) _ 1 (⟨a, k, s, m, wy.heap.size, wl, fun _ => 0⟩ : TB) _ rfl (alloc2_new _ _ _) (by omega) ?_; intro g cap w5 hO hK hg; obtain ⟨x1, x2, x3, x4, x5⟩ := HPU.out Z HZ.out _ g cap w5 hO hK hg; have HI2 := Lib.hid x4; have HP2 := Lib.hid x5; clear hO hK hg x4 x5)
    all_goals
      go_wp2_with (at_builtin; go_loud (refine wpList_app1 _ rfl _ _ 22 rfl 3 i0 (.int .i64 0) 8 Try.underlying_ints hi hz0 hz1 hz2 rfl (by decide) _ _ _ rfl (HI2.out.alloc _) _ 1 (.int .i64 (a : Nat)) rfl (cellS_new _ _ _ _ _) rfl (by simp only []; omega) ?_); intro g2 cap2 w7 hO3 hK3 hg3; obtain ⟨y1, y2, y3⟩ := HP2.out _ g2 cap2 w7 hO3 hK3 hg3; have HFIN := Lib.hid y3; clear hO3 hK3 hg3 y3)
      go_ret2
      rw [HWL.out]
      exact ⟨gone, rlv, rL, Hr, lv, L', HPL, .inr ⟨a, Hr1, HEA.out, rfl, rlv', rL', _, _, _, HFIN⟩⟩
end Go.Proofs.Ytnbiofcfphpikaa

namespace Go.Proofs.Ytnbiofcfphpikaa
open Go.RowKit

/-- The two spaces have the same blocks, and so on. -/
structure Jn (D : BD) (M : Mp) : Prop where
  ob : Objs D.H M
  tr : TR D.L M D.Hr
  n : D.Hr.n = D.H.n
  n16 : D.H.n ≤ 16
  held : D.thd = D.held
  cnt : D.tn = D.n
theorem Jn.rooms {D : BD} {M : Mp} (h : Jn D M) (a : Nat) : D.Hr.room a = D.H.room a := by
  cases hb : M a with
  | none => rw [h.tr.no a hb, h.ob.no a hb]
  | some b => rw [h.tr.room a b hb, h.ob.room a b hb]
theorem Jn.blocks {D : BD} {M : Mp} (h : Jn D M) : D.H.blocks.length = D.L.length := by
  rw [h.ob.count (l := D.L.map TB.a) h.tr.nd (fun a => ?_), List.length_map]
  constructor
  · intro ha
    obtain ⟨x, hx, rfl⟩ := List.mem_map.1 ha
    exact h.tr.some_ hx
  · intro ha
    obtain ⟨x, hx, e⟩ := h.tr.ex a ha
    exact List.mem_map.2 ⟨x, hx, e⟩
namespace Bo
variable {w0 w w' : World} {D : BD} {M : Mp}
theorem told (h : Bo w0 w D) (hj : Jn D M) :
    Calls Try.prog 26 #[.pointer (some ⟨D.sp, 0, none⟩)] w fun e w' => e = .returned (.tuple #[.int .i64 D.L.length, .int .i64 D.tn, .int .i64 D.Hr.spans]) ∧ Keeps (fun _ => False) w w' := by
  refine (told_calls h.space).mono ?_
  rintro e w' ⟨rfl, hS⟩
  rw [hj.blocks, hj.cnt, HS.spans_same h.wf h.rwf hj.n hj.rooms]
  exact ⟨rfl, hS.out.2⟩
theorem head (h : Bo w0 w D) (hj : Jn D M) {i : Nat} (hi : i < D.L.length) :
    Calls Try.prog 27 #[.pointer (some ⟨D.sp, 0, none⟩), .int .i64 ((tbat D.L i).a : Nat)] w fun e w' => e = .returned (.tuple #[.int .i64 (tbat D.L i).k, .int .i64 ((tbat D.L i).s : Nat), .int .i64 (tbat D.L i).m]) ∧ ∃ q, w' = w.drewN q := by
  have hh := hj.ob.heads ((tbat D.L i).a : Int)
  rw [look_nat, hj.tr.at_ _ (tbat_mem hi)] at hh
  have := head_calls h.space ((tbat D.L i).a : Int)
  rw [hh.1, hh.2.1, hh.2.2] at this
  exact this
theorem get (h : Bo w0 w D) (hj : Jn D M) (x k : Int) :
    Calls Try.prog 29 #[.pointer (some ⟨D.sp, 0, none⟩), .int .i64 x, .int .i64 k] w fun e w' => e = .returned (.int .i64 (mget M x k)) ∧ ∃ q, w' = w.drewN q := by
  have := get_calls h.space x k
  rw [hj.ob.get] at this
  exact this
end Bo

set_option maxRecDepth 100000 in
set_option maxHeartbeats 8000000 in
theorem Bo.same {w0 w : World} {D : BD} {M : Mp} (h : Bo w0 w D) (hj : Jn D M) (hl : D.L.length ≤ 1000) :
    Calls Try.prog 32 #[.pointer (some ⟨D.sp, 0, none⟩), .pointer (some ⟨D.tb, 0, none⟩)] w fun e w' => e = .returned (.bool true) ∧ Hid (Keeps (fun _ => False) w w') := by
  obtain ⟨al, cl, e1, -⟩ := h.rowAt
  have HB := Lib.hid h
  have HJ := Lib.hid hj
  have HE1 := Lib.hid e1
  have HT := Lib.hid (h.told hj)
  have HCC : Hid (∀ wx, Keeps (fun _ => False) w wx → wx.cell? ⟨D.tb, 0, none⟩ = some (.pointer (some ⟨D.rb, 0, none⟩)) ∧ wx.cell? ⟨D.tb, 1, none⟩ = some (.slice al D.L.length cl) ∧ wx.cell? ⟨D.tb, 4, none⟩ = some (.int .i64 D.tn)) := fun wx hk => ⟨hk.cell0 h.t0, by have := h.t1; rw [e1] at this; exact hk.cell0 this, hk.cell0 h.t4⟩
  have b1 : (((D.L.length : Nat) : Int) != (D.L.length : Int)) = false := by simp
  have b2 : (((D.tn : Nat) : Int) != (D.tn : Int)) = false := by simp
  have b3 : (((D.Hr.spans : Nat) : Int) != (D.Hr.spans : Int)) = false := by simp
  clear h hj e1
  go_enter Try.func32, Try.ntmps32
  go_wp2_with fail
  refine HT.out.mono ?_
  rintro e w1 ⟨rfl, hk1⟩
  obtain ⟨c0, c1, c4⟩ := HCC.out w1 hk1
  have HK1 := Lib.hid hk1
  have HSP := Lib.hid (HB.out.keep0 hk1).rspans
  clear hk1 HT
  go_wp2_with fail
  refine HSP.out.mono ?_
  rintro e w2 ⟨rfl, hk2⟩
  have HST : Hid (Keeps (fun _ => False) w w2) := HK1.out.trans hk2 (fun _ _ h => h)
  obtain ⟨c0, c1, c4⟩ := HCC.out w2 HST.out
  clear hk2 HSP HK1
  go_wp2
  clear c0 c1 c4
  go_loopw [49] (fun i wr => ∃ k : Nat, k ≤ D.L.length ∧ i = .int .i64 k ∧ Hid (Keeps (fun _ => False) w wr)) (fun i _ => D.L.length - (intOf i).toNat)
  case atStart => exact ⟨0, Nat.zero_le _, rfl, HST⟩
  case round =>
    clear HST
    obtain ⟨k, hk, rfl, hK⟩ := hrel
    by_cases hlt : k < D.L.length
    · have dk : decide (k < D.L.length) = true := decide_eq_true hlt
      obtain ⟨b, rfl, q0, q1, q2, q3, q4⟩ := (HB.out.keep0 hK.out).rowAt' HE1.out hlt
      have hsl := HJ.out.tr.s_le (tbat_mem hlt)
      have hwl : (tbat D.L k).wl ≤ 1048576 := by
        have h1 := HJ.out.tr.rm (tbat_mem hlt)
        have h2 := HB.out.rwf.inside (a := (tbat D.L k).a) (by omega)
        omega
      have HHD : Hid (∀ wx, Keeps (fun _ => False) w wx → Calls Try.prog 27 #[.pointer (some ⟨D.sp, 0, none⟩), .int .i64 ((tbat D.L k).a : Nat)] wx fun e w' => e = .returned (.tuple #[.int .i64 (tbat D.L k).k, .int .i64 ((tbat D.L k).s : Nat), .int .i64 (tbat D.L k).m]) ∧ ∃ q, w' = wx.drewN q) := fun wx hk => (HB.out.keep0 hk).head HJ.out hlt
      have HG1 : Hid (∀ wx, Keeps (fun _ => False) w wx → Calls Try.prog 29 #[.pointer (some ⟨D.sp, 0, none⟩), .int .i64 ((tbat D.L k).a : Nat), .int .i64 (-1)] wx fun e w' => e = .returned (.int .i64 0) ∧ ∃ q, w' = wx.drewN q) := fun wx hk => by
        have := (HB.out.keep0 hk).get HJ.out ((tbat D.L k).a : Nat) (-1)
        rwa [mget_out (b := ⟨(tbat D.L k).k, (tbat D.L k).s, (tbat D.L k).m, (tbat D.L k).W⟩) (by rw [look_nat]; exact HJ.out.tr.at_ _ (tbat_mem hlt)) (.inl (by omega))] at this
      have HG2 : Hid (∀ wx, Keeps (fun _ => False) w wx → Calls Try.prog 29 #[.pointer (some ⟨D.sp, 0, none⟩), .int .i64 ((tbat D.L k).a : Nat), .int .i64 ((tbat D.L k).s : Nat)] wx fun e w' => e = .returned (.int .i64 0) ∧ ∃ q, w' = wx.drewN q) := fun wx hk => by
        have := (HB.out.keep0 hk).get HJ.out ((tbat D.L k).a : Nat) ((tbat D.L k).s : Nat)
        rwa [mget_out (b := ⟨(tbat D.L k).k, (tbat D.L k).s, (tbat D.L k).m, (tbat D.L k).W⟩) (by rw [look_nat]; exact HJ.out.tr.at_ _ (tbat_mem hlt)) (.inr (Int.le_refl _))] at this
      have HG3 : Hid (∀ wx, Keeps (fun _ => False) w wx → ∀ j, j < (tbat D.L k).s → wx.cell? ⟨(tbat D.L k).g, j, none⟩ = some (.int .i64 ((tbat D.L k).W j)) ∧ ∀ q, Calls Try.prog 29 #[.pointer (some ⟨D.sp, 0, none⟩), .int .i64 ((tbat D.L k).a : Nat), .int .i64 (j : Nat)] (wx.drewN q) fun e w' => e = .returned (.int .i64 ((tbat D.L k).W j)) ∧ ∃ m, w' = wx.drewN m) := fun wx hk j hj => by
        refine ⟨((HB.out.keep0 hk).word hlt (by omega)).1, fun q => ?_⟩
        have := ((HB.out.keep0 hk).drewN q).get HJ.out ((tbat D.L k).a : Nat) (j : Nat)
        rw [mget_at (HJ.out.tr.at_ _ (tbat_mem hlt)) (x := (j : Int)) j rfl hj] at this
        refine this.mono ?_
        rintro e w' ⟨he, m, rfl⟩
        exact ⟨he, q + m, by simp [World.drewN, Nat.add_assoc]⟩
      generalize ((tbat D.L k).a : Int) = xa at *
      generalize (tbat D.L k).k = xk at *
      generalize (tbat D.L k).s = xs at *
      generalize (tbat D.L k).m = xm at *
      generalize (tbat D.L k).g = xg at *
      generalize (tbat D.L k).wl = xl at *
      generalize (tbat D.L k).W = xW at *
      have n1 : (xk != xk) = false := by simp
      have n2 : (((xs : Nat) : Int) != (xs : Int)) = false := by simp
      have n3 : (xm != xm) = false := by simp
      have HBX : Hid (∀ j, (wr.alloc (.cells #[.int .i64 xa, .int .i64 xk, .int .i64 xs, .int .i64 xm, .slice (some ⟨xg, 0, none⟩) xl xl] 99)).cell? ⟨wr.heap.size, j, none⟩ = #[.int .i64 xa, .int .i64 xk, .int .i64 xs, .int .i64 xm, Value.slice (some ⟨xg, 0, none⟩) xl xl][j]?) := fun j => World.cell?_alloc_new wr _ _ j
      have HKA : Hid (Keeps (fun _ => False) w (wr.alloc (.cells #[.int .i64 xa, .int .i64 xk, .int .i64 xs, .int .i64 xm, .slice (some ⟨xg, 0, none⟩) xl xl] 99))) := hK.out.alloc _
      clear hK
      go_wp2_with fail
      generalize (wr.alloc (.cells #[.int .i64 xa, .int .i64 xk, .int .i64 xs, .int .i64 xm, .slice (some ⟨xg, 0, none⟩) xl xl] 99)) = w3 at *
      generalize wr.heap.size = p at *
      have HBC : Hid (∀ wx, Keeps (fun _ => False) w3 wx → wx.cell? ⟨p, 0, none⟩ = some (.int .i64 xa) ∧ wx.cell? ⟨p, 1, none⟩ = some (.int .i64 xk) ∧ wx.cell? ⟨p, 2, none⟩ = some (.int .i64 xs) ∧ wx.cell? ⟨p, 3, none⟩ = some (.int .i64 xm) ∧ wx.cell? ⟨p, 4, none⟩ = some (.slice (some ⟨xg, 0, none⟩) xl xl)) := fun wx hk => ⟨hk.cell0 (HBX.out 0), hk.cell0 (HBX.out 1), hk.cell0 (HBX.out 2), hk.cell0 (HBX.out 3), hk.cell0 (HBX.out 4)⟩
      obtain ⟨p0, p1, p2, p3, p4⟩ := HBC.out w3 (Keeps.refl _ _)
      refine (HHD.out w3 HKA.out).mono ?_
      rintro e w4 ⟨rfl, q1', rfl⟩
      have HKQ : ∀ q, Hid (Keeps (fun _ => False) w (w3.drewN q)) := fun q => HKA.out.drewN q
      go_wp2_with fail
      refine (HG1.out _ (HKQ _).out).mono ?_
      rintro e w4 ⟨rfl, q2', rfl⟩
      go_wp2_with fail
      refine (HG2.out _ (HKQ _).out).mono ?_
      rintro e w4 ⟨rfl, q3', rfl⟩
      have HK3 : ∀ q, Hid (Keeps (fun _ => False) w3 (w3.drewN q)) := fun q => (Keeps.refl _ w3).drewN q
      clear p0 p1 p2 p3 p4 q0 q1 q2 q3 q4
      go_wp2
      go_loopw [13] (fun j wx => ∃ u : Nat, u ≤ xs ∧ j = .int .i64 u ∧ Hid (Keeps (fun _ => False) w3 wx)) (fun j _ => xs - (intOf j).toNat)
      case atStart => exact ⟨0, Nat.zero_le _, rfl, HK3 _⟩
      case round =>
        obtain ⟨u, hu, rfl, hK⟩ := hrel
        obtain ⟨p0, p1, p2, p3, p4⟩ := HBC.out wr hK.out
        by_cases huz : u < xs
        · have du : decide (u < xs) = true := decide_eq_true huz
          obtain ⟨hw, hget⟩ := HG3.out wr (HKA.out.trans hK.out (fun _ _ h => h)) u huz
          have HGT := Lib.hid hget
          have dq : (xW u != xW u) = false := by simp
          clear hget
          generalize xW u = v at *
          go_wp2_with fail
          go_quiet ((go_at_call 29; exact HGT.out _))
          have HK5 : Hid (Keeps (fun _ => False) w3 (wr.drewN nq)) := hK.out.drewN nq
          go_wp2
          go_roundw
          case rel => exact ⟨u + 1, by omega, by go_num, HK5⟩
          case measure => simp [intOf]; omega
        · obtain rfl : xs = u := by omega
          have du : decide (xs < xs) = false := by simp
          have HKF : Hid (Keeps (fun _ => False) w wr) := HKA.out.trans hK.out (fun _ _ h => h)
          go_wp2
          go_roundw
          case rel => exact ⟨k + 1, by omega, by go_num, HKF⟩
          case measure => simp [intOf]; omega
    · obtain rfl : k = D.L.length := by omega
      have dk : decide (D.L.length < D.L.length) = false := by simp
      go_wp2
      go_ret
      exact ⟨rfl, hK⟩
end Go.Proofs.Ytnbiofcfphpikaa

namespace Go.Proofs.Ytnbiofcfphpikaa
open Go.RowKit

/-- A block of numbers. -/
def BoxAt (w : World) (p : Nat) (xs : List Int) : Prop := ∀ (j : Nat) (x : Int), xs[j]? = some x → w.cell? ⟨p, j, none⟩ = some (.int .i64 x)
theorem BoxAt.keep {w w' : World} {p : Nat} {xs : List Int} {F : Nat → Prop} (h : BoxAt w p xs) (hk : Keeps F w w') (hF : ¬ F p) : BoxAt w' p xs := fun j x hx => hk.cell (h j x hx) hF
theorem BoxAt.keep0 {w w' : World} {p : Nat} {xs : List Int} (h : BoxAt w p xs) (hk : Keeps (fun _ => False) w w') : BoxAt w' p xs := h.keep hk (fun h => h)
theorem BoxAt.new (w : World) (x0 x1 x2 x3 x4 x5 x6 : Int) (T : TypeId) : BoxAt (w.alloc (.cells #[.int .i64 x0, .int .i64 x1, .int .i64 x2, .int .i64 x3, .int .i64 x4, .int .i64 x5, .int .i64 x6] T)) w.heap.size [x0, x1, x2, x3, x4, x5, x6] := by
  intro j x hx
  have h := World.cell?_alloc_new w #[.int .i64 x0, .int .i64 x1, .int .i64 x2, .int .i64 x3, .int .i64 x4, .int .i64 x5, .int .i64 x6] T j
  rw [h]
  rcases j with _|_|_|_|_|_|_|j
  all_goals first | (simp at hx; subst hx; rfl) | (simp at hx)
/-- Few of everything. -/
structure Bd (D : BD) (j : Nat) : Prop where
  L : D.L.length ≤ j
  all : D.all.length ≤ j
  held : D.held.length ≤ j
  n : D.n ≤ j
  alls : ∀ x ∈ D.all, 0 ≤ x ∧ x ≤ 1048576
theorem Bd.up {D : BD} {i j : Nat} (h : Bd D i) (hj : i ≤ j) : Bd D j := ⟨Nat.le_trans h.L hj, Nat.le_trans h.all hj, Nat.le_trans h.held hj, Nat.le_trans h.n hj, h.alls⟩
theorem nthV_in {all : List Int} (h : ∀ x ∈ all, 0 ≤ x ∧ x ≤ 1048576) (n : Int) : 0 ≤ nthV all n ∧ nthV all n ≤ 1048576 := by
  unfold nthV
  split
  · omega
  · rename_i hc
    have h0 := Int.emod_nonneg n (show (all.length : Int) ≠ 0 by omega)
    have h1 := Int.emod_lt_of_pos n (show (0 : Int) < (all.length : Int) by omega)
    refine h _ ?_
    rw [List.getD_eq_getElem?_getD, List.getElem?_eq_getElem (by omega)]
    exact List.getElem_mem _
def StepOut (w0 w' : World) (D : BD) (j : Nat) : Prop := ∃ D' M', Bo w0 w' D' ∧ Jn D' M' ∧ Bd D' (j + 1) ∧ D'.sp = D.sp ∧ D'.tb = D.tb
theorem Bo.fits {w0 w : World} {D : BD} (h : Bo w0 w D) {k : Nat} (hk : SpF D.B D.sp D.hv k) : k < w.heap.size := by
  rcases hk with e | e | e
  · exact h.hi 0 k (.inr e)
  · exact h.hi 1 k e
  · exact h.hi 2 k e
/-- What leaves the space but for its own blocks leaves a box. -/
theorem Bo.boxed {w0 w w' : World} {D : BD} (h : Bo w0 w D) {o : Obj} {xs : List Int} (hb : BoxAt (w.alloc o) w.heap.size xs) {wx : World} (hk0 : Keeps (fun _ => False) (w.alloc o) wx) (hk : Keeps (SpF D.B D.sp D.hv) wx w') : BoxAt w' w.heap.size xs :=
  (hb.keep0 hk0).keep hk (fun hf => by have := h.fits hf; omega)
end Go.Proofs.Ytnbiofcfphpikaa
