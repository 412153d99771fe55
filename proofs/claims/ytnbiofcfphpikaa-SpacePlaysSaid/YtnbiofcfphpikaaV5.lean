/-
  The walks of space: New, Collect, Hold, Drop.
-/
import Derived.Test.YtnbiofcfphpikaaV4
import Derived.Test.YtnbiofcfphpikaaBase
import Derived.StillTailTactics
namespace Go.Proofs.Ytnbiofcfphpikaa
open Go.RowKit

/-- A space that a call made (w: its world at the beginning): its heap is H, its list hv reads as held. -/
structure SpaceAt (w wr : World) (B : HB) (sp : Nat) (hv : Value) (H : HS) (held : List Int) (n : Nat) : Prop where
  heap : HeapAt wr B H
  wf : H.Wf
  me : wr.heap[sp]? = some (.cells #[.nilFunc, .pointer (some ⟨B.h, 0, none⟩), hv, .int .i64 n] 87 (0, 0))
  ints : Ints wr hv held
  lits : ∀ x ∈ held, (Lit.int .i64 x).wf = true
  keeps : Keeps (fun _ => False) w wr
  fpNew : ∀ k, B.fp k → w.heap.size ≤ k
  spNew : w.heap.size ≤ sp
  hvNew : ∀ g, hv.ownBlock = some g → w.heap.size ≤ g
  spFp : ¬ B.fp sp
  hvFp : ∀ g, hv.ownBlock = some g → ¬ B.fp g
  hvSp : ∀ g, hv.ownBlock = some g → g ≠ sp
/-- What the operations write to. -/
def SpF (B : HB) (sp : Nat) (hv : Value) (k : Nat) : Prop := B.wr k ∨ k = sp ∨ hv.ownBlock = some k

namespace SpaceAt
variable {w wr w' : World} {B : HB} {sp : Nat} {hv : Value} {H H' : HS} {held : List Int} {n : Nat}
theorem spLt (h : SpaceAt w wr B sp hv H held n) : sp < wr.heap.size := heap_lt h.me
theorem drewN (h : SpaceAt w wr B sp hv H held n) (q : Nat) : SpaceAt w (wr.drewN q) B sp hv H held n :=
  ⟨h.heap.keep ((Keeps.refl (fun _ => False) wr).drewN q) (fun _ _ h => h), h.wf, h.me, h.ints, h.lits, h.keeps.drewN q, h.fpNew, h.spNew, h.hvNew, h.spFp, h.hvFp, h.hvSp⟩
/-- What leaves the space alone. -/
theorem other {F : Nat → Prop} (h : SpaceAt w wr B sp hv H held n) (hk : Keeps F wr w') (h1 : ∀ k, B.fp k → ¬ F k) (h2 : ¬ F sp) (h3 : ∀ k, hv.ownBlock = some k → ¬ F k) (h4 : ∀ k, k < w.heap.size → ¬ F k) : SpaceAt w w' B sp hv H held n :=
  ⟨h.heap.keep hk h1, h.wf, hk.at_ h.me h2, h.ints.keep hk h3, h.lits, h.keeps.trans hk (fun k hk' hF => (h4 k hk' hF).elim), h.fpNew, h.spNew, h.hvNew, h.spFp, h.hvFp, h.hvSp⟩
theorem other0 (h : SpaceAt w wr B sp hv H held n) (hk : Keeps (fun _ => False) wr w') : SpaceAt w w' B sp hv H held n := h.other hk (fun _ _ h => h) (fun h => h) (fun _ _ h => h) (fun _ _ h => h)
theorem alloc (h : SpaceAt w wr B sp hv H held n) (o : Obj) : SpaceAt w (wr.alloc o) B sp hv H held n := h.other0 ((Keeps.refl _ _).alloc o)
/-- The heap has turned. -/
theorem turned (h : SpaceAt w wr B sp hv H held n) (hA : HeapAt w' B H') (hW : H'.Wf) (hk : Keeps B.wr wr w') : SpaceAt w w' B sp hv H' held n :=
  have hw : ∀ k, B.wr k → B.fp k := fun k h => .inr h
  ⟨hA, hW, hk.at_ h.me (fun e => h.spFp (hw _ e)), h.ints.keep hk (fun k e hF => h.hvFp k e (hw _ hF)), h.lits, h.keeps.trans hk (fun k hk' hF => by have := h.fpNew k (hw _ hF); omega), h.fpNew, h.spNew, h.hvNew, h.spFp, h.hvFp, h.hvSp⟩
theorem cellKeep {a : World} {b i : Nat} {sp : Option Nat} (u : Value) : Keeps (fun k => k = b) a (a.setCell ⟨b, i, sp⟩ u) := (Keeps.refl (fun k => k = b) a).setCell (fun _ => rfl) u
theorem heap_set {a : World} {b i : Nat} {cur : Array Value} {T : TypeId} (hg : a.heap[b]? = some (.cells cur T (0, 0))) (u : Value) : (a.setCell ⟨b, i, none⟩ u).heap[b]? = some (.cells (cur.setIfInBounds i u) T (0, 0)) := by
  simp only [World.setCell, Array.getElem?_modify, if_true, hg, Option.map_some]
  rfl
/-- The count has turned. -/
theorem counted (h : SpaceAt w wr B sp hv H held n) (m : Nat) : SpaceAt w (wr.setCell ⟨sp, 3, none⟩ (.int .i64 m)) B sp hv H held m := by
  have hk : Keeps (fun k => k = sp) wr (wr.setCell ⟨sp, 3, none⟩ (.int .i64 m)) := cellKeep _
  exact ⟨h.heap.keep hk (fun k hk e => h.spFp (e ▸ hk)), h.wf, heap_set h.me _, h.ints.keep hk (fun k e => h.hvSp k e), h.lits, h.keeps.trans hk (fun k hk' e => by have := h.spNew; omega), h.fpNew, h.spNew, h.hvNew, h.spFp, h.hvFp, h.hvSp⟩
/-- The list has turned. -/
theorem listed {hv' : Value} {held' : List Int} (h : SpaceAt w wr B sp hv H held n) (hi : Ints wr hv' held') (hl : ∀ x ∈ held', (Lit.int .i64 x).wf = true) (h1 : ∀ g, hv'.ownBlock = some g → w.heap.size ≤ g ∧ ¬ B.fp g ∧ g ≠ sp) :
    SpaceAt w (wr.setCell ⟨sp, 2, none⟩ hv') B sp hv' H held' n := by
  have hk : Keeps (fun k => k = sp) wr (wr.setCell ⟨sp, 2, none⟩ hv') := cellKeep _
  exact ⟨h.heap.keep hk (fun k hk e => h.spFp (e ▸ hk)), h.wf, heap_set h.me _, hi.keep hk (fun k e => (h1 k e).2.2), hl, h.keeps.trans hk (fun k hk' e => by have := h.spNew; omega), h.fpNew, h.spNew, fun g e => (h1 g e).1, h.spFp, fun g e => (h1 g e).2.1, fun g e => (h1 g e).2.2⟩
theorem c0 (h : SpaceAt w wr B sp hv H held n) : wr.cell? ⟨sp, 0, none⟩ = some .nilFunc := by simp only [World.cell?, h.me]; rfl
theorem c1 (h : SpaceAt w wr B sp hv H held n) : wr.cell? ⟨sp, 1, none⟩ = some (.pointer (some ⟨B.h, 0, none⟩)) := by simp only [World.cell?, h.me]; rfl
theorem c2 (h : SpaceAt w wr B sp hv H held n) : wr.cell? ⟨sp, 2, none⟩ = some hv := by simp only [World.cell?, h.me]; rfl
theorem c3 (h : SpaceAt w wr B sp hv H held n) : wr.cell? ⟨sp, 3, none⟩ = some (.int .i64 n) := by simp only [World.cell?, h.me]; rfl
theorem free (h : SpaceAt w wr B sp hv H held n) (i : Nat) : wr.frozen? ⟨sp, i, none⟩ = false := by simp [World.frozen?, h.me]
end SpaceAt

set_option maxHeartbeats 1000000 in
theorem space_new (w : World) (x : Nat) (h1 : 128 ≤ x) (h2 : x ≤ 1048576) :
    Calls Try.prog 21 #[.int .i64 x] w fun e w' => ∃ B : HB, ∃ sp, e = .returned (.pointer (some ⟨sp, 0, none⟩)) ∧ Hid (SpaceAt w w' B sp (.slice none 0 0) (HS.new x) [] 0) := by
  have HN := Lib.hid (new_calls w x h1 h2)
  have hW := Lib.hid (new_wf h1 h2)
  go_enter Try.func21, Try.ntmps21
  go_wp2_with fail
  refine HN.out.mono ?_
  rintro e w1 ⟨B, rfl, hB⟩
  go_wp2
  go_ret
  have hsz := hB.out.2.1.size
  have hfp : ∀ k, B.fp k → k < w1.heap.size := fun k hk => hB.out.1.fp_lt hk
  refine ⟨B, _, rfl, hB.out.1.keep ((Keeps.refl (fun _ => False) w1).alloc _) (fun _ _ h => h), hW.out, heap_alloc_new w1 _, Ints.nil _, fun x hx => by simp at hx, hB.out.2.1.alloc _, hB.out.2.2, hsz, fun g h => by simp [Value.ownBlock] at h, fun h => by have := hfp _ h; omega, fun g h => by simp [Value.ownBlock] at h, fun g h => by simp [Value.ownBlock] at h⟩

set_option maxRecDepth 100000 in
set_option maxHeartbeats 1000000 in
theorem space_collect {w wr : World} {B : HB} {sp : Nat} {hv : Value} {H : HS} {held : List Int} {n : Nat} (h : SpaceAt w wr B sp hv H held n) (hl : held.length ≤ 10000000) (hn : n ≤ 1000000000) :
    Calls Try.prog 25 #[.pointer (some ⟨sp, 0, none⟩)] wr fun e w' => ∃ c : Nat, e = .returned (.int .i64 c) ∧ ∃ H', Hid (SpaceAt w w' B sp hv H' held (n + 1) ∧ H.Swept H' held c ∧ Keeps (SpF B sp hv) wr w') := by
  have hc3 := h.c3
  have hfr := h.free
  obtain ⟨i0, hi, hz0, hz1, hz2⟩ := info_parts Try.info_int
  have hcnt := h.counted (n + 1)
  have hsp := h.spLt
  have en : (((n + 1 : Nat)) : Int) = (n : Int) + 1 := by omega
  rw [en] at hcnt
  have HK0 : Hid (Keeps (SpF B sp hv) wr (wr.setCell ⟨sp, 3, none⟩ (.int .i64 ((n : Int) + 1)))) := (Keeps.refl _ _).setCell (fun _ => .inr (.inl rfl)) _
  have hS := hcnt.ints.src.alloc (.cells #[] 3)
  have hE := Ints.empty (wr.setCell ⟨sp, 3, none⟩ (.int .i64 ((n : Int) + 1)))
  have hA2 := (hcnt.alloc (.cells #[] 3)).c2
  have hsz : (wr.setCell ⟨sp, 3, none⟩ (.int .i64 ((n : Int) + 1))).heap.size = wr.heap.size := by simp
  have hsz2 : ((wr.setCell ⟨sp, 3, none⟩ (.int .i64 ((n : Int) + 1))).alloc (.cells #[] 3)).heap.size = wr.heap.size + 1 := by simp
  rw [hsz] at hE
  have HS' := Lib.hid hS
  have HE := Lib.hid hE
  have HC := Lib.hid (hcnt.alloc (.cells #[] 3))
  have HSZ2 := Lib.hid hsz2
  have HWH : Hid (w.heap.size ≤ wr.heap.size) := h.keeps.size
  have HON : Hid (∀ w5, Keeps (fun k => k = wr.heap.size) ((wr.setCell ⟨sp, 3, none⟩ (.int .i64 ((n : Int) + 1))).alloc (.cells #[] 3)) w5 → SpaceAt w w5 B sp hv H held (n + 1)) := by
    intro w5 hK
    have hfp : ∀ k, B.fp k → k < wr.heap.size := fun k hk => h.heap.fp_lt hk
    have hhv : ∀ k, hv.ownBlock = some k → k < wr.heap.size := fun k hk => Own.lt h.ints k hk
    have := h.keeps.size
    exact (hcnt.alloc _).other hK (fun k hk e => by have := hfp k hk; omega) (by omega) (fun k hk e => by have := hhv k hk; omega) (fun k hk e => by omega)
  clear h hcnt hS hE hsz hsz2 en
  have qf : ∀ w, (binOp .neq 85 .nilFunc .nilFunc).run Try.prog w = .ok (.bool false) w := fun w => by kernel_rfl
  rcases (id HS'.out : Src _ hv held) with ⟨rfl, rfl⟩ | ⟨ad, c, rfl, -⟩
  all_goals
    go_enter Try.func25, Try.ntmps25
    go_wp2_with (at_builtin; go_loud (refine wpList_appN hi hz0 hz1 hz2 rfl _ _ rfl rfl rfl wr.heap.size HE.out (Nat.le_refl _) (by rw [HSZ2.out]; omega) HS'.out (by simp at hl ⊢ <;> omega) ?_; intro g5 cap5 w5 hI5 hf5 hK5; have H5 := Lib.hid (HON.out w5 hK5); have h50 := fun o => (H5.out.alloc o).c0; have h51 := fun o => (H5.out.alloc o).c1; have h5f := fun o => (H5.out.alloc o).free; have HI5 := Lib.hid hI5; have HK5 := Lib.hid hK5; clear hI5 hK5))
    have HI6 := fun o => Lib.hid (HI5.out.src.alloc o)
    have HC6 := fun o => Lib.hid (collect_calls (w := (w5.alloc o).drew) ((H5.out.alloc o).drewN 1).heap H5.out.wf ((HI6 o).out.drewN 1) (fun ad n c h => by cases h; rfl) (by simp at hl ⊢ <;> omega) (fun y hy => H5.out.lits y hy))
    clear HI6
    go_wp2_with fail
    have h51d := fun o => (((H5.out.alloc o).drewN 1).c1 : (w5.alloc o).drew.cell? _ = _)
    have hhv : ∀ u : Value, (w5.alloc (.cells #[u] 22)).drew.cell? ⟨w5.heap.size, 0, none⟩ = some u := fun u => World.cell?_alloc_new w5 #[u] _ 0
    refine wp_region_still_tail 5 (by kernel_rfl) (by kernel_rfl) ?_
    change wpStill _ _ (World.drew _) _ _ _
    simp only [List.take_succ_cons, List.take_zero, List.drop_succ_cons, List.drop_zero]
    repeat still_step
    refine wpStill_nil ?_
    go_wp2_with fail
    refine (HC6 _).out.mono ?_
    rintro e w7 ⟨c7, rfl, H7, h7⟩
    go_wp2
    go_ret
    have HT := SpaceAt.turned (wr := (w5.alloc _).drew) ((H5.out.alloc _).drewN 1) h7.out.1 h7.out.2.1.wf h7.out.2.2
    have HK := (((HK0.out.alloc _).trans HK5.out (fun k hk e => by omega)).alloc (.cells #[.slice (some ⟨g5, 0, none⟩) _ cap5] 22)).drew.trans h7.out.2.2 (fun k hk hF => .inl hF)
    exact ⟨c7, rfl, H7, HT, h7.out.2.1, HK⟩
end Go.Proofs.Ytnbiofcfphpikaa
