/-
  The contracts of space over the map of its blocks, with the ledger of its spans.
-/
import Derived.Test.YtnbiofcfphpikaaSpA
import Derived.Test.YtnbiofcfphpikaaLed
namespace Go.Proofs.Ytnbiofcfphpikaa
open Go.RowKit

/-- A space that a call made (w: its world at the beginning); M: its blocks; R: blocks of memory that aren't the space's. -/
def SpB (w wr : World) (R : Nat → Prop) (sp N : Nat) (M : Mp) (held : List Int) (n : Nat) (F : Lg) : Prop :=
  ∃ (B : HB) (hv : Value) (H : HS), SpaceAt w wr B sp hv H held n ∧ Objs H M ∧ H.Led F ∧ H.n = N ∧ True ∧ ∀ k, R k → ¬ B.fp k ∧ k ≠ sp ∧ hv.ownBlock ≠ some k ∧ k < wr.heap.size

namespace SpB
variable {w wr w' : World} {R R' : Nat → Prop} {sp N : Nat} {M : Mp} {held : List Int} {n : Nat} {F : Lg}
theorem drewN (h : SpB w wr R sp N M held n F) (q : Nat) : SpB w (wr.drewN q) R sp N M held n F := by
  obtain ⟨B, hv, H, h1, h2⟩ := h
  exact ⟨B, hv, H, h1.drewN q, h2⟩
theorem drew (h : SpB w wr R sp N M held n F) : SpB w wr.drew R sp N M held n F := h.drewN 1
theorem keeps (h : SpB w wr R sp N M held n F) : Keeps (fun _ => False) w wr := by
  obtain ⟨B, hv, H, h1, _⟩ := h
  exact h1.keeps
theorem front (h : SpB w wr R sp N M held n F) {G : Lg} (hG : F.le G) : SpB w wr R sp N M held n G := by
  obtain ⟨B, hv, H, h1, h2, h3, h4, h5, h6⟩ := h
  exact ⟨B, hv, H, h1, h2, h3.mono hG, h4, trivial, h6⟩
theorem sub (h : SpB w wr R sp N M held n F) (hR : ∀ k, R' k → R k) : SpB w wr R' sp N M held n F := by
  obtain ⟨B, hv, H, h1, h2, h3, h4, h5, h6⟩ := h
  exact ⟨B, hv, H, h1, h2, h3, h4, h5, fun k hk => h6 k (hR k hk)⟩
/-- What leaves the space's blocks alone. -/
theorem other {G : Nat → Prop} (h : SpB w wr R sp N M held n F) (hk : Keeps G wr w') (hG : ∀ k, G k → k < wr.heap.size → R k ∧ w.heap.size ≤ k) : SpB w w' R sp N M held n F := by
  obtain ⟨B, hv, H, h1, h2, h3, h4, h5, h6⟩ := h
  have hfp : ∀ k, B.fp k → k < wr.heap.size := fun k hk => h1.heap.fp_lt hk
  have hhv : ∀ k, hv.ownBlock = some k → k < wr.heap.size := fun k hk => Own.lt h1.ints k hk
  refine ⟨B, hv, H, h1.other hk (fun k hf hg => (h6 k (hG k hg (hfp k hf)).1).1 hf) (fun hg => (h6 sp (hG sp hg h1.spLt).1).2.1 rfl) (fun k he hg => (h6 k (hG k hg (hhv k he)).1).2.2.1 he) (fun k hk' hg => ?_), h2, h3, h4, h5, fun k hk' => ?_⟩
  · have := h1.keeps.size
    have := (hG k hg (by omega)).2
    omega
  · have := h6 k hk'
    exact ⟨this.1, this.2.1, this.2.2.1, Nat.lt_of_lt_of_le this.2.2.2 hk.size⟩
theorem other0 (h : SpB w wr R sp N M held n F) (hk : Keeps (fun _ => False) wr w') : SpB w w' R sp N M held n F := h.other hk (fun _ h => h.elim)
theorem alloc (h : SpB w wr R sp N M held n F) (o : Obj) : SpB w (wr.alloc o) R sp N M held n F := h.other0 ((Keeps.refl _ _).alloc o)
/-- A new block is none of the space's. -/
theorem add (h : SpB w wr R sp N M held n F) (hk : Keeps (fun _ => False) wr w') (hR : ∀ k, R' k → R k ∨ (wr.heap.size ≤ k ∧ k < w'.heap.size)) : SpB w w' R' sp N M held n F := by
  obtain ⟨B, hv, H, h1, h2, h3, h4, h5, h6⟩ := h
  have hfp : ∀ k, B.fp k → k < wr.heap.size := fun k hk => h1.heap.fp_lt hk
  have hhv : ∀ k, hv.ownBlock = some k → k < wr.heap.size := fun k hk => Own.lt h1.ints k hk
  refine ⟨B, hv, H, h1.other0 hk, h2, h3, h4, h5, fun k hk' => ?_⟩
  rcases hR k hk' with hr | hr
  · have := h6 k hr
    exact ⟨this.1, this.2.1, this.2.2.1, Nat.lt_of_lt_of_le this.2.2.2 hk.size⟩
  · exact ⟨fun hf => by have := hfp k hf; omega, by have := h1.spLt; omega, fun he => by have := hhv k he; omega, hr.2⟩
/-- What the operations leave of the others. -/
theorem rest {B : HB} {hv : Value} (h6 : ∀ k, R k → ¬ B.fp k ∧ k ≠ sp ∧ hv.ownBlock ≠ some k ∧ k < wr.heap.size) (hk : Keeps (SpF B sp hv) wr w') : Keeps (fun k => ¬ R k) wr w' :=
  hk.mono fun k _ hf hr => by
    have := h6 k hr
    rcases hf with hf | hf | hf
    · exact this.1 (.inr hf)
    · exact this.2.1 hf
    · exact this.2.2.1 hf
theorem rest' {B : HB} {hv : Value} (h6 : ∀ k, R k → ¬ B.fp k ∧ k ≠ sp ∧ hv.ownBlock ≠ some k ∧ k < wr.heap.size) (hk : Keeps (SpF B sp hv) wr w') : ∀ k, R k → ¬ B.fp k ∧ k ≠ sp ∧ hv.ownBlock ≠ some k ∧ k < w'.heap.size :=
  fun k hr => ⟨(h6 k hr).1, (h6 k hr).2.1, (h6 k hr).2.2.1, Nat.lt_of_lt_of_le (h6 k hr).2.2.2 hk.size⟩
theorem rest2 {B : HB} {hv hv' : Value} (h6 : ∀ k, R k → ¬ B.fp k ∧ k ≠ sp ∧ hv.ownBlock ≠ some k ∧ k < wr.heap.size) (hk : Keeps (SpF B sp hv) wr w') (hn : Near wr hv hv') : ∀ k, R k → ¬ B.fp k ∧ k ≠ sp ∧ hv'.ownBlock ≠ some k ∧ k < w'.heap.size :=
  fun k hr => ⟨(h6 k hr).1, (h6 k hr).2.1, fun he => by
    rcases hn k he with e | e
    · exact (h6 k hr).2.2.1 e
    · have := (h6 k hr).2.2.2; omega, Nat.lt_of_lt_of_le (h6 k hr).2.2.2 hk.size⟩
theorem isBlk (h : SpB w wr R sp N M held n F) {a : Nat} {b : Blk} (hb : M a = some b) : 64 ≤ a ∧ a % 2 = 0 ∧ a + b.s < 64 * N ∧ b.s < 16448 ∧ a ≤ 1048576 := by
  obtain ⟨B, hv, H, h1, h2, h3, h4, _⟩ := h
  rw [← h4]; exact h2.at_ hb
theorem isOk (h : SpB w wr R sp N M held n F) {a : Nat} {b : Blk} (hb : M a = some b) : hdrOk b.k b.s b.m := by
  obtain ⟨B, hv, H, h1, h2, _⟩ := h
  exact h2.ok a b hb
theorem congr (h : SpB w wr R sp N M held n F) {M' : Mp} (e : M = M') : SpB w wr R sp N M' held n F := e ▸ h
end SpB

section
variable {w wr : World} {R : Nat → Prop} {sp N : Nat} {M : Mp} {held : List Int} {n : Nat} {F : Lg}

theorem bNew (w : World) (x : Nat) (h1 : 128 ≤ x) (h2 : x ≤ 1048576) :
    Calls Try.prog 21 #[.int .i64 x] w fun e w' => ∃ sp, e = .returned (.pointer (some ⟨sp, 0, none⟩)) ∧ Hid (SpB w w' R0 sp (x / 64) (fun _ => none) [] 0 Lg.none) := by
  refine (space_new w x h1 h2).mono ?_
  rintro e w' ⟨B, sp, he, hS⟩
  have := objs_new h1 h2
  exact ⟨sp, he, B, _, _, hS.out, this.1, HS.Led.empty this.1.wf (fun a => this.1.no a rfl), rfl, trivial, fun k hk => hk.elim⟩

/-- Make where there is room. -/
theorem bMake (h : SpB w wr R sp N M held n F) (k m : Int) (s : Nat) (hk : hdrOk k s m) (hF : (F.add (s + 1)).cost ≤ N) :
    Calls Try.prog 22 #[.pointer (some ⟨sp, 0, none⟩), .int .i64 k, .int .i64 s, .int .i64 m] wr fun e w' => ∃ a : Nat, e = .returned (.tuple #[.int .i64 a, .bool true]) ∧
      M a = none ∧ Hid (SpB w w' R sp N (setf M a (some ⟨k, s, m, fun _ => 0⟩)) held n (F.add (s + 1)) ∧ Keeps (fun k => ¬ R k) wr w') := by
  obtain ⟨B, hv, H, h1, h2, h3, h4, h5, h6⟩ := h
  have es : ((s : Int) + 1).toNat = s + 1 := by omega
  have hs := hk.2.2.2.1
  obtain ⟨a, H1, ha, hadd, hfr⟩ := h3.alloc h2.wf (x := (s : Int) + 1) (by omega) (by omega) (by rw [es, h4]; exact hF)
  rw [es] at hadd hfr
  have hm := h2.make hk hadd
  refine (make_yes h1 k s m hk ha).mono ?_
  rintro e w' ⟨rfl, hS⟩
  exact ⟨a, rfl, hm.1, ⟨B, hv, _, hS.out.1, hm.2, hfr.less hadd.wf hm.2.wf rfl (fun _ => .inr rfl), hadd.n.trans h4, trivial, SpB.rest' h6 hS.out.2⟩, SpB.rest h6 hS.out.2⟩

theorem bMakeBad (h : SpB w wr R sp N M held n F) (k s m : Int) (hk : ¬ hdrOk k s m) :
    Calls Try.prog 22 #[.pointer (some ⟨sp, 0, none⟩), .int .i64 k, .int .i64 s, .int .i64 m] wr fun e w' => e = .returned (.tuple #[.int .i64 0, .bool false]) ∧ wr = w' := by
  obtain ⟨B, hv, H, h1, _⟩ := h
  exact make_bad h1 k s m hk

theorem bHead (h : SpB w wr R sp N M held n F) (x : Int) :
    Calls Try.prog 27 #[.pointer (some ⟨sp, 0, none⟩), .int .i64 x] wr fun e w' => e = .returned (.tuple #[.int .i64 (bk (look M x)), .int .i64 (bs (look M x)), .int .i64 (bm (look M x))]) ∧ ∃ q, w' = wr.drewN q := by
  obtain ⟨B, hv, H, h1, h2, _⟩ := h
  have := h2.heads x
  rw [← this.1, ← this.2.1, ← this.2.2]
  exact head_calls h1 x
theorem bGet (h : SpB w wr R sp N M held n F) (x k : Int) :
    Calls Try.prog 29 #[.pointer (some ⟨sp, 0, none⟩), .int .i64 x, .int .i64 k] wr fun e w' => e = .returned (.int .i64 (mget M x k)) ∧ ∃ q, w' = wr.drewN q := by
  obtain ⟨B, hv, H, h1, h2, _⟩ := h
  rw [← h2.get x k]
  exact get_calls h1 x k
theorem bSetNo (h : SpB w wr R sp N M held n F) (x k v : Int) (hc : mcan M x k = false) :
    Calls Try.prog 28 #[.pointer (some ⟨sp, 0, none⟩), .int .i64 x, .int .i64 k, .int .i64 v] wr fun e w' => e = .returned (.bool false) ∧ ∃ q, w' = wr.drewN q := by
  obtain ⟨B, hv, H, h1, h2, _⟩ := h
  exact set_no h1 x k v (by rw [h2.canSet]; exact hc)
theorem bSet (h : SpB w wr R sp N M held n F) (a k : Nat) (v : Int) {b : Blk} (hb : M a = some b) (hk : k < b.s) :
    Calls Try.prog 28 #[.pointer (some ⟨sp, 0, none⟩), .int .i64 a, .int .i64 k, .int .i64 v] wr fun e w' => e = .returned (.bool true) ∧ Hid (SpB w w' R sp N (mset M a k v) held n F ∧ Keeps (fun k => ¬ R k) wr w') := by
  obtain ⟨B, hv, H, h1, h2, h3, h4, h5, h6⟩ := h
  have hl : look M (a : Int) = some b := by rw [look_nat]; exact hb
  have hc : H.canSet (a : Int) (k : Int) = true := by
    rw [h2.canSet]
    unfold mcan bcan
    rw [hl]
    simp; omega
  refine (set_yes h1 a k v hc).mono ?_
  rintro e w' ⟨rfl, hS⟩
  have := h2.set hl (show (0 : Int) ≤ k by omega) (by omega) v
  rw [Int.toNat_natCast, Int.toNat_natCast] at this
  exact ⟨rfl, ⟨B, hv, _, hS.out.1, this, h3.less h2.wf this.wf rfl (fun _ => .inr rfl), h4, h5, SpB.rest' h6 hS.out.2⟩, SpB.rest h6 hS.out.2⟩
theorem bHold (h : SpB w wr R sp N M held n F) (x : Int) (hx : (Lit.int .i64 x).wf = true) (hl : held.length ≤ 10000000) :
    Calls Try.prog 23 #[.pointer (some ⟨sp, 0, none⟩), .int .i64 x] wr fun e w' => e = .returned (.tuple #[]) ∧ Hid (SpB w w' R sp N M (held ++ [x]) n F ∧ Keeps (fun k => ¬ R k) wr w') := by
  obtain ⟨B, hv, H, h1, h2, h3, h4, h5, h6⟩ := h
  refine (hold_calls h1 x hx hl).mono ?_
  rintro e w' ⟨rfl, hv', hS⟩
  exact ⟨rfl, ⟨B, hv', H, hS.out.1, h2, h3, h4, h5, SpB.rest2 h6 hS.out.2.1 hS.out.2.2⟩, SpB.rest h6 hS.out.2.1⟩
theorem bDrop (h : SpB w wr R sp N M held n F) (x : Int) (K : Nat) (hK : (K : Int) = min (max 0 x) held.length) (hl : held.length ≤ 10000000) :
    Calls Try.prog 24 #[.pointer (some ⟨sp, 0, none⟩), .int .i64 x] wr fun e w' => e = .returned (.tuple #[]) ∧ Hid (SpB w w' R sp N M (held.take (held.length - K)) n F ∧ Keeps (fun k => ¬ R k) wr w') := by
  obtain ⟨B, hv, H, h1, h2, h3, h4, h5, h6⟩ := h
  refine (drop_calls h1 x K hK hl).mono ?_
  rintro e w' ⟨rfl, hv', hS⟩
  exact ⟨rfl, ⟨B, hv', H, hS.out.1, h2, h3, h4, h5, SpB.rest2 h6 hS.out.2.1 hS.out.2.2⟩, SpB.rest h6 hS.out.2.1⟩
theorem bDrop1 {x : Int} (h : SpB w wr R sp N M (held ++ [x]) n F) (hl : held.length < 10000000) :
    Calls Try.prog 24 #[.pointer (some ⟨sp, 0, none⟩), .int .i64 1] wr fun e w' => e = .returned (.tuple #[]) ∧ Hid (SpB w w' R sp N M held n F ∧ Keeps (fun k => ¬ R k) wr w') := by
  have := bDrop h 1 1 (by rw [List.length_append]; simp; omega) (by rw [List.length_append]; simp; omega)
  rwa [List.length_append, List.length_singleton, Nat.add_sub_cancel, List.take_left'] at this
  rfl
theorem bDrop0 (h : SpB w wr R sp N M [] n F) (x : Int) :
    Calls Try.prog 24 #[.pointer (some ⟨sp, 0, none⟩), .int .i64 x] wr fun e w' => e = .returned (.tuple #[]) ∧ Hid (SpB w w' R sp N M [] n F ∧ Keeps (fun k => ¬ R k) wr w') := by
  have := bDrop h x 0 (by simp; omega) (by simp)
  simpa using this
theorem bCollect (h : SpB w wr R sp N M held n F) (hl : held.length ≤ 10000000) (hn : n ≤ 1000000000) :
    Calls Try.prog 25 #[.pointer (some ⟨sp, 0, none⟩)] wr fun e w' => ∃ c : Nat, e = .returned (.int .i64 c) ∧ Hid (SpB w w' R sp N (mlive M held) held (n + 1) F ∧ Keeps (fun k => ¬ R k) wr w') := by
  obtain ⟨B, hv, H, h1, h2, h3, h4, h5, h6⟩ := h
  refine (space_collect h1 hl hn).mono ?_
  rintro e w' ⟨c, rfl, H', hS⟩
  have hs := hS.out.2.1
  exact ⟨c, rfl, ⟨B, hv, H', hS.out.1, h2.swept hs, h3.swept h2.wf hs, hs.n.trans h4, h5, SpB.rest' h6 hS.out.2.2⟩, SpB.rest h6 hS.out.2.2⟩
theorem bTold (h : SpB w wr R sp N M held n F) {l : List Nat} (hl : l.Nodup) (hm : ∀ a, a ∈ l ↔ M a ≠ none) :
    Calls Try.prog 26 #[.pointer (some ⟨sp, 0, none⟩)] wr fun e w' => ∃ f : Nat, e = .returned (.tuple #[.int .i64 l.length, .int .i64 n, .int .i64 f]) ∧ ((∀ a, M a = none) → f = N - 1) ∧ Hid (SpB w w' R sp N M held n F ∧ Keeps (fun _ => False) wr w') := by
  obtain ⟨B, hv, H, h1, h2, h3, h4, h5, h6⟩ := h
  refine (told_calls h1).mono ?_
  rintro e w' ⟨rfl, hS⟩
  refine ⟨H.spans, by rw [h2.count hl hm], fun h0 => ?_, ⟨B, hv, H, hS.out.1, h2, h3, h4, h5, fun k hr => ?_⟩, hS.out.2⟩
  · have e : M = fun _ => none := funext h0
    rw [e] at h2
    rw [h2.empty.2, h4]
  · have := h6 k hr
    exact ⟨this.1, this.2.1, this.2.2.1, Nat.lt_of_lt_of_le this.2.2.2 hS.out.2.size⟩
end
end Go.Proofs.Ytnbiofcfphpikaa
