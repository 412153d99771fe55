/-
  A heap and the document's, side by side, with a block of four numbers.
-/
import Derived.Test.YtchoioajalpfoaaSame
import Derived.Test.YtchoioajalpfoaaAnc
namespace Go.Proofs.Ytchoioajalpfoaa
open Go.RowKit


/-- The heap Hh lies at B, the document's Hr at rb, four numbers at bx. -/
structure Duo (w0 w : World) (B : HB) (rb : Nat) (Hh Hr : HS) (bx : Nat) (x0 x1 x2 x3 : Int) : Prop where
  keeps : Keeps (fun _ => False) w0 w
  heap : HeapAt w B Hh
  ref : RefA w0 w (fun k => B.fp k ∨ k = bx) rb Hr
  new : ∀ k, B.fp k → w0.heap.size ≤ k
  b0 : w.cell? ⟨bx, 0, none⟩ = some (.int .i64 x0)
  b1 : w.cell? ⟨bx, 1, none⟩ = some (.int .i64 x1)
  b2 : w.cell? ⟨bx, 2, none⟩ = some (.int .i64 x2)
  b3 : w.cell? ⟨bx, 3, none⟩ = some (.int .i64 x3)
  bw : ¬ B.wr bx
/-- .. and nothing besides. -/
structure Play (w0 w : World) (B : HB) (rb : Nat) (H : HS) : Prop where
  keeps : Keeps (fun _ => False) w0 w
  heap : HeapAt w B H
  ref : RefA w0 w B.fp rb H
  new : ∀ k, B.fp k → w0.heap.size ≤ k
  wf : H.Wf
theorem Play.keep0 {w0 w w' : World} {B : HB} {rb : Nat} {H : HS} (h : Play w0 w B rb H) (hk : Keeps (fun _ => False) w w') : Play w0 w' B rb H :=
  ⟨h.keeps.trans hk (fun _ _ h => h), h.heap.keep hk (fun _ _ h => h), h.ref.keep0 hk, h.new, h.wf⟩
theorem Play.drewN {w0 w : World} {B : HB} {rb : Nat} {H : HS} (h : Play w0 w B rb H) (q : Nat) : Play w0 (w.drewN q) B rb H := h.keep0 ((Keeps.refl _ w).drewN q)
theorem Play.alloc {w0 w : World} {B : HB} {rb : Nat} {H : HS} (h : Play w0 w B rb H) (o : Obj) : Play w0 (w.alloc o) B rb H := h.keep0 ((Keeps.refl _ w).alloc o)
theorem Play.box {w0 w : World} {B : HB} {rb : Nat} {H : HS} (h : Play w0 w B rb H) (T : TypeId) (x0 x1 x2 x3 : Int) : Duo w0 (w.alloc (.cells #[.int .i64 x0, .int .i64 x1, .int .i64 x2, .int .i64 x3] T)) B rb H H w.heap.size x0 x1 x2 x3 := by
  have h' := h.alloc (.cells #[.int .i64 x0, .int .i64 x1, .int .i64 x2, .int .i64 x3] T)
  exact ⟨h'.keeps, h'.heap, h.ref.more ((Keeps.refl (fun _ => False) w).alloc _) (fun _ h => h.elim) (fun k hk => by
    rcases hk with e | e
    · exact ⟨.inl e, Nat.lt_of_lt_of_le (h.heap.lt k e) (by simp)⟩
    · subst e; exact ⟨.inr (Nat.le_refl _), by simp⟩), h.new, World.cell?_alloc_new w _ _ 0, World.cell?_alloc_new w _ _ 1, World.cell?_alloc_new w _ _ 2, World.cell?_alloc_new w _ _ 3, fun e => by have := h.heap.lt _ (.inr e); omega⟩

namespace Duo
variable {w0 w w' : World} {B : HB} {rb : Nat} {Hh Hh' Hr Hr' : HS} {bx : Nat} {x0 x1 x2 x3 : Int}
theorem br (h : Duo w0 w B rb Hh Hr bx x0 x1 x2 x3) : bx ≠ rb := fun e => h.ref.rb_new.2.1 (.inr e.symm)
theorem fr (h : Duo w0 w B rb Hh Hr bx x0 x1 x2 x3) : ∀ k, B.fp k → k ≠ rb := fun k hk e => h.ref.rb_new.2.1 (.inl (e ▸ hk))
theorem keep0 (h : Duo w0 w B rb Hh Hr bx x0 x1 x2 x3) (hk : Keeps (fun _ => False) w w') : Duo w0 w' B rb Hh Hr bx x0 x1 x2 x3 :=
  ⟨h.keeps.trans hk (fun _ _ h => h), h.heap.keep hk (fun _ _ h => h), h.ref.keep0 hk, h.new, hk.cell0 h.b0, hk.cell0 h.b1, hk.cell0 h.b2, hk.cell0 h.b3, h.bw⟩
theorem drewN (h : Duo w0 w B rb Hh Hr bx x0 x1 x2 x3) (q : Nat) : Duo w0 (w.drewN q) B rb Hh Hr bx x0 x1 x2 x3 := h.keep0 ((Keeps.refl _ w).drewN q)
theorem heapOp (h : Duo w0 w B rb Hh Hr bx x0 x1 x2 x3) (hA : HeapAt w' B Hh') (hK : Keeps B.wr w w') : Duo w0 w' B rb Hh' Hr bx x0 x1 x2 x3 :=
  ⟨h.keeps.trans hK (fun k hk hw => by have := h.new k (.inr hw); omega), hA, h.ref.keep hK (fun k hw _ => .inl (.inr hw)), h.new, hK.cell h.b0 h.bw, hK.cell h.b1 h.bw, hK.cell h.b2 h.bw, hK.cell h.b3 h.bw, h.bw⟩
theorem refOp (h : Duo w0 w B rb Hh Hr bx x0 x1 x2 x3) (hR : RefA w0 w' (fun k => B.fp k ∨ k = bx) rb Hr') (hK : Keeps (fun k => k = rb) w w') : Duo w0 w' B rb Hh Hr' bx x0 x1 x2 x3 :=
  ⟨h.keeps.trans hK (fun k hk e => by have := h.ref.rb_new.1; omega), h.heap.keep hK h.fr, hR, h.new, hK.cell h.b0 h.br, hK.cell h.b1 h.br, hK.cell h.b2 h.br, hK.cell h.b3 h.br, h.bw⟩
theorem play (h : Duo w0 w B rb Hh Hh bx x0 x1 x2 x3) (hW : Hh.Wf) : Play w0 w B rb Hh := ⟨h.keeps, h.heap, h.ref.sub fun _ h => .inl h, h.new, hW⟩

theorem halloc_some (h : Duo w0 w B rb Hh Hr bx x0 x1 x2 x3) (hW : Hh.Wf) {x : Int} {a : Nat} (e : Hh.alloc x = some (a, Hh')) :
    Calls Try.prog 10 #[.pointer (some ⟨B.h, 0, none⟩), .int .i64 x] w fun e w' => e = .returned (.tuple #[.int .i64 a, .bool true]) ∧ Hid (Duo w0 w' B rb Hh' Hr bx x0 x1 x2 x3) :=
  (alloc_yes h.heap hW e).mono fun _ _ ⟨he, hA, hK, _⟩ => ⟨he, h.heapOp hA hK⟩
theorem halloc_none (h : Duo w0 w B rb Hh Hr bx x0 x1 x2 x3) (hW : Hh.Wf) {x : Int} (e : Hh.alloc x = none) :
    Calls Try.prog 10 #[.pointer (some ⟨B.h, 0, none⟩), .int .i64 x] w fun e w' => e = .returned (.tuple #[.int .i64 0, .bool false]) ∧ Hid (Duo w0 w' B rb Hh Hr bx x0 x1 x2 x3) :=
  (alloc_no h.heap hW e).mono fun _ _ ⟨he, q, hq⟩ => ⟨he, by subst hq; exact h.drewN q⟩
theorem ralloc_some (h : Duo w0 w B rb Hh Hr bx x0 x1 x2 x3) (hW : Hr.Wf) {x : Int} {a : Nat} (e : Hr.alloc x = some (a, Hr')) :
    Calls Try.prog 25 #[.pointer (some ⟨rb, 0, none⟩), .int .i64 x] w fun e w' => e = .returned (.tuple #[.int .i64 a, .bool true]) ∧ Hid (Duo w0 w' B rb Hh Hr' bx x0 x1 x2 x3) := by
  refine (h.ref.ralloc hW x).mono fun e' w' hp => ?_
  rw [e] at hp
  exact ⟨hp.1, h.refOp hp.2.1 hp.2.2⟩
theorem ralloc_none (h : Duo w0 w B rb Hh Hr bx x0 x1 x2 x3) (hW : Hr.Wf) {x : Int} (e : Hr.alloc x = none) :
    Calls Try.prog 25 #[.pointer (some ⟨rb, 0, none⟩), .int .i64 x] w fun e w' => e = .returned (.tuple #[.int .i64 0, .bool false]) ∧ Hid (Duo w0 w' B rb Hh Hr bx x0 x1 x2 x3) := by
  refine (h.ref.ralloc hW x).mono fun e' w' hp => ?_
  rw [e] at hp
  exact ⟨hp.1, h.keep0 hp.2.2⟩
theorem hfree_some (h : Duo w0 w B rb Hh Hr bx x0 x1 x2 x3) (hW : Hh.Wf) {x : Int} (e : Hh.roomI x ≠ 0) :
    Calls Try.prog 11 #[.pointer (some ⟨B.h, 0, none⟩), .int .i64 x] w fun e w' => e = .returned (.bool true) ∧ Hid (Duo w0 w' B rb (Hh.freeAt x.toNat) Hr bx x0 x1 x2 x3) :=
  (free_calls h.heap hW x e).mono fun _ _ ⟨he, hA, hK, _⟩ => ⟨he, h.heapOp hA hK⟩
theorem rfree_some (h : Duo w0 w B rb Hh Hr bx x0 x1 x2 x3) (hW : Hr.Wf) {x : Int} (e : Hr.roomI x ≠ 0) :
    Calls Try.prog 27 #[.pointer (some ⟨rb, 0, none⟩), .int .i64 x] w fun e w' => e = .returned (.bool true) ∧ Hid (Duo w0 w' B rb Hh (Hr.freeAt x.toNat) bx x0 x1 x2 x3) :=
  (h.ref.rfree_yes hW x e).mono fun _ _ ⟨he, hA⟩ => ⟨he, h.refOp hA.out.1 hA.out.2⟩
end Duo

theorem HS.blocksTo_words (H : HS) (W : Nat → Int) : ∀ k, ({ H with words := W } : HS).blocksTo k = H.blocksTo k
  | 0 => rfl
  | k + 1 => by
    show ({ H with words := W } : HS).blocksTo k ++ H.spanBlocks k = H.blocksTo k ++ H.spanBlocks k
    rw [HS.blocksTo_words H W k]
theorem HS.blocks_words (H : HS) (W : Nat → Int) : ({ H with words := W } : HS).blocks = H.blocks := HS.blocksTo_words H W H.n
/-- A word of the document's. -/
theorem RefAt.put {w : World} {rb : Nat} {lv : Value} {L : List RB} {H : HS} {i k : Nat} {v : Int} (h : RefAt w rb lv L H) (hW : H.Wf) (hi : i < L.length) (hk : k < rr L i) :
    RefAt (w.setCell ⟨rg L i, k, none⟩ (.int .i64 v)) rb lv L { H with words := setf H.words (ra L i + k) v } := by
  have hw := h.wds_at hi
  have hK : Keeps (fun b => b = rg L i) w (w.setCell ⟨rg L i, k, none⟩ (.int .i64 v)) := (Keeps.refl (fun b => b = rg L i) w).setCell (p := ⟨rg L i, k, none⟩) (fun _ => rfl) _
  have hrb : rb ≠ rg L i := by
    intro e
    obtain ⟨c, hc, _⟩ := hw
    rw [← e, h.hd] at hc
    simp at hc
  have hlv : ∀ b, lv.ownBlock = some b → ¬ b = rg L i := by
    intro b hb e
    subst e
    exact ownsRow_row_ne h.row hw hb
  refine ⟨hK.at_ h.hd hrb, ownsRow_keeps h.row hK hlv, fun x hx => ?_, by rw [HS.blocks_words]; exact h.ats, h.rms, h.gs⟩
  by_cases e : x.g = rg L i
  · have ex : x = L[i] := by
      obtain ⟨j, hj, rfl⟩ := List.getElem_of_mem hx
      have hji : j = i := by
        apply Classical.byContradiction
        intro hne
        have hp := List.pairwise_iff_getElem.1 (List.nodup_iff_pairwise_ne.1 h.gs)
        unfold rg at e
        rw [rb_get hi] at e
        rcases Nat.lt_or_ge j i with h1 | h1
        · exact hp j i (by simpa using hj) (by simpa using hi) h1 (by simpa using e)
        · exact hp i j (by simpa using hi) (by simpa using hj) (by omega) (by simpa using e.symm)
      subst hji; rfl
    have e1 : x.a = ra L i := by rw [ex]; unfold ra; rw [rb_get hi]
    have e2 : x.r = rr L i := by rw [ex]; unfold rr; rw [rb_get hi]
    rw [e, e1, e2]
    refine (hw.set hk v).congr fun j hj => ?_
    by_cases e3 : j = k
    · subst e3; rw [setf_same]; exact (setf_same _ _ _).symm
    · rw [setf_ne _ _ e3]; exact (setf_ne _ _ (by omega)).symm
  · refine ((h.wds x hx).keep hK e).congr fun j hj => ?_
    refine (setf_ne _ _ ?_).symm
    have hx0 : H.room x.a ≠ 0 := (hW.mem_blocks _).1 (by rw [← h.ats]; exact List.mem_map.2 ⟨x, hx, rfl⟩)
    have hi0 := h.room_ne hW hi
    by_cases ea : x.a = ra L i
    · exfalso
      apply e
      obtain ⟨j', hj', rfl⟩ := List.getElem_of_mem hx
      have e4 : ra L j' = ra L i := by rw [← ea]; unfold ra; rw [rb_get hj']
      have : j' = i := by
        rcases Nat.lt_trichotomy j' i with h1 | h1 | h1
        · have := h.rising h1 hi; omega
        · exact h1
        · have := h.rising h1 hj'; omega
      subst this
      unfold rg; rw [rb_get hj']
    · have := hW.apart hx0 hi0 ea
      rw [← h.rms x hx, ← h.room_at hi] at this
      omega

/-- The document's list, and what a store into it leaves. -/
theorem Duo.open {w0 w : World} {B : HB} {rb : Nat} {Hh Hr : HS} {bx : Nat} {x0 x1 x2 x3 : Int} (h : Duo w0 w B rb Hh Hr bx x0 x1 x2 x3) (hW : Hr.Wf) :
    ∃ lv L, RefAt w rb lv L Hr ∧ (∀ b, RFp rb lv L b → ¬ B.fp b) ∧ ∀ i k (v : Int) wx, Keeps (fun _ => False) w wx → i < L.length → k < rr L i → Duo w0 (wx.setCell ⟨rg L i, k, none⟩ (.int .i64 v)) B rb Hh { Hr with words := setf Hr.words (ra L i + k) v } bx x0 x1 x2 x3 ∧
      RefAt (wx.setCell ⟨rg L i, k, none⟩ (.int .i64 v)) rb lv L { Hr with words := setf Hr.words (ra L i + k) v } := by
  obtain ⟨lv, L, h1, h2, h3⟩ := h.ref
  refine ⟨lv, L, h1, fun b hb e => (h2 b hb).2 (.inl e), fun i k v wx hkx hi hk => ?_⟩
  have hf : RFp rb lv L (rg L i) := .inr (.inr ⟨L[i], List.getElem_mem hi, by unfold rg; rw [rb_get hi]⟩)
  have hK : Keeps (fun b => b = rg L i) w (wx.setCell ⟨rg L i, k, none⟩ (.int .i64 v)) := (hkx.mono (fun _ _ h => h.elim)).trans ((Keeps.refl (fun b => b = rg L i) wx).setCell (p := ⟨rg L i, k, none⟩) (fun _ => rfl) _) (fun _ _ h => h)
  have hn := h2 _ hf
  have hb : ¬ bx = rg L i := fun e => hn.2 (.inr e.symm)
  have hR := (h1.keep hkx (fun _ _ h => h)).put (v := v) hW hi hk
  refine ⟨⟨h.keeps.trans hK (fun b hb e => by omega), h.heap.keep hK (fun b hb e => hn.2 (.inl (e ▸ hb))), ⟨lv, L, hR, h2, fun b hb => ?_⟩, h.new, hK.cell h.b0 hb, hK.cell h.b1 hb, hK.cell h.b2 hb, hK.cell h.b3 hb, h.bw⟩, hR⟩
  exact Nat.lt_of_lt_of_le (h3 b hb) hK.size
end Go.Proofs.Ytchoioajalpfoaa
