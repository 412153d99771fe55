/-
  Words for memory: what a call may change, rows of numbers, the heap's own five blocks.
-/
import Derived.WalkKit
import Derived.WalkSpells
import Derived.WalkLawsBesides
import Derived.BigQuiet
import Derived.Deep.QuietTactic
import Derived.Lib.SliceRun
import Derived.Lib.Hide
import Derived.Test.YtnbiofcfphpikaaHeapLaw
namespace Go.Proofs.Ytnbiofcfphpikaa
open Go.RowKit

/-- All that was there is as it was, but for the blocks in F. -/
structure Keeps (F : Nat → Prop) (w w' : World) : Prop where
  os : w'.os = w.os
  tape : w'.tape = w.tape
  output : w'.output = w.output
  size : w.heap.size ≤ w'.heap.size
  block : ∀ k, k < w.heap.size → ¬ F k → w'.heap[k]? = w.heap[k]?

theorem heap_lt {w : World} {k : Nat} {o : Obj} (h : w.heap[k]? = some o) : k < w.heap.size := (Array.getElem?_eq_some_iff.1 h).1

namespace Keeps
variable {F G : Nat → Prop} {w a b c w' : World}
theorem refl (F : Nat → Prop) (w : World) : Keeps F w w := ⟨rfl, rfl, rfl, Nat.le_refl _, fun _ _ _ => rfl⟩
theorem trans (h : Keeps F a b) (k : Keeps G b c) (hG : ∀ k, k < a.heap.size → G k → F k) : Keeps F a c :=
  ⟨k.os.trans h.os, k.tape.trans h.tape, k.output.trans h.output, Nat.le_trans h.size k.size,
    fun i hi hF => (k.block i (Nat.lt_of_lt_of_le hi h.size) (fun g => hF (hG i hi g))).trans (h.block i hi hF)⟩
theorem mono (h : Keeps F a b) (hF : ∀ k, k < a.heap.size → F k → G k) : Keeps G a b := ⟨h.os, h.tape, h.output, h.size, fun k hk hn => h.block k hk fun f => hn (hF k hk f)⟩
theorem alloc (h : Keeps F a w) (o : Obj) : Keeps F a (w.alloc o) :=
  ⟨h.os, h.tape, h.output, by have := h.size; simp; omega, fun k hk hF => (Below.heap_alloc w o k (Nat.lt_of_lt_of_le hk h.size)).trans (h.block k hk hF)⟩
theorem drew (h : Keeps F a w) : Keeps F a w.drew := ⟨h.os, h.tape, h.output, h.size, h.block⟩
theorem drewN (h : Keeps F a w) (n : Nat) : Keeps F a (w.drewN n) := ⟨h.os, h.tape, h.output, h.size, h.block⟩
theorem of_drewN {n : Nat} (h : Keeps F (a.drewN n) b) : Keeps F a b := ⟨h.os, h.tape, h.output, h.size, h.block⟩
theorem of_drew (h : Keeps F a.drew b) : Keeps F a b := ⟨h.os, h.tape, h.output, h.size, h.block⟩
theorem setCell (h : Keeps F a w) {p : Addr} (hp : p.block < a.heap.size → F p.block) (u : Value) : Keeps F a (w.setCell p u) :=
  ⟨h.os, h.tape, h.output, by have := h.size; simpa using this, fun k hk hF => (Below.heap_setCell w p u k (fun e => by subst e; exact hF (hp hk))).trans (h.block k hk hF)⟩
theorem grown (h : Keeps F a w) {row : Option Nat} (hg : w.grownBy w' row) (hr : ∀ k, row = some k → k < a.heap.size → F k) : Keeps F a w' :=
  ⟨hg.os.trans h.os, hg.tape.trans h.tape, hg.output.trans h.output, Nat.le_trans h.size hg.size,
    fun k hk hF => (hg.block k (Nat.lt_of_lt_of_le hk h.size) (fun e => hF (hr k e.symm hk))).trans (h.block k hk hF)⟩
theorem below (h : Keeps F a b) (hF : ∀ k, k < a.heap.size → ¬ F k) : Below a.heap.size a b := ⟨h.os, h.tape, h.output, h.size, fun k hk => h.block k hk (hF k hk)⟩
theorem of_below {B : Nat} (h : Below B a b) : Keeps (fun k => B ≤ k) a b := ⟨h.os, h.tape, h.output, h.size, fun k _ hF => h.block k (by omega)⟩
theorem at_ (h : Keeps F a b) {k : Nat} {o : Obj} (ho : a.heap[k]? = some o) (hF : ¬ F k) : b.heap[k]? = some o := (h.block k (heap_lt ho) hF).trans ho
end Keeps

/-- A block of n numbers, none of them frozen. -/
def Row (w : World) (b : Nat) (T : TypeId) (κ : IntKind) (n : Nat) (f : Nat → Int) : Prop :=
  ∃ c, w.heap[b]? = some (.cells c T (0, 0)) ∧ c.size = n ∧ ∀ i, i < n → c[i]? = some (.int κ (f i))

namespace Row
variable {w w' : World} {b n : Nat} {T : TypeId} {κ : IntKind} {f g : Nat → Int} {F : Nat → Prop}
theorem lt (h : Row w b T κ n f) : b < w.heap.size := by obtain ⟨c, hc, _⟩ := h; exact heap_lt hc
theorem cell (h : Row w b T κ n f) {i : Nat} (hi : i < n) : w.cell? ⟨b, i, none⟩ = some (.int κ (f i)) := by
  obtain ⟨c, hc, hs, hf⟩ := h
  simp only [World.cell?, hc]
  simpa using hf i hi
theorem free (h : Row w b T κ n f) (i : Nat) : w.frozen? ⟨b, i, none⟩ = false := by
  obtain ⟨c, hc, hs, hf⟩ := h
  simp [World.frozen?, hc]
theorem keep (h : Row w b T κ n f) (hk : Keeps F w w') (hF : ¬ F b) : Row w' b T κ n f := by
  obtain ⟨c, hc, hs, hf⟩ := h
  exact ⟨c, hk.at_ hc hF, hs, hf⟩
theorem drewN (h : Row w b T κ n f) (q : Nat) : Row (w.drewN q) b T κ n f := h
theorem alloc (h : Row w b T κ n f) (o : Obj) : Row (w.alloc o) b T κ n f := by
  obtain ⟨c, hc, hs, hf⟩ := h
  exact ⟨c, (Below.heap_alloc w o b (heap_lt hc)).trans hc, hs, hf⟩
theorem set (h : Row w b T κ n f) {i : Nat} (_hi : i < n) (v : Int) : Row (w.setCell ⟨b, i, none⟩ (.int κ v)) b T κ n (setf f i v) := by
  obtain ⟨c, hc, hs, hf⟩ := h
  refine ⟨c.setIfInBounds i (.int κ v), ?_, by simpa using hs, ?_⟩
  · simp only [World.setCell, Array.getElem?_modify, if_true, hc, Option.map_some]
    simp
  · intro j hj
    by_cases e : i = j
    · subst e; rw [setf_same]; simp [hs, hj]
    · rw [setf_ne _ _ (Ne.symm e), Array.getElem?_setIfInBounds_ne e]; exact hf j hj
theorem other (h : Row w b T κ n f) {p : Addr} (hp : b ≠ p.block) (v : Value) : Row (w.setCell p v) b T κ n f := by
  obtain ⟨c, hc, hs, hf⟩ := h
  exact ⟨c, (Below.heap_setCell w p v b hp).trans hc, hs, hf⟩
theorem congr (h : Row w b T κ n f) (hfg : ∀ i, i < n → f i = g i) : Row w b T κ n g := by
  obtain ⟨c, hc, hs, hf⟩ := h
  exact ⟨c, hc, hs, fun i hi => by rw [hf i hi, hfg i hi]⟩
theorem made (w : World) (n : Nat) (T : TypeId) (κ : IntKind) : Row (w.alloc (.cells (Builtin.zeroCells #[.int κ 0] n) T)) w.heap.size T κ n (fun _ => 0) := by
  refine ⟨_, heap_alloc_new w _, by simp [size_zeroCells], ?_⟩
  intro i hi
  have : (Builtin.zeroCells #[Value.int κ 0] n) = Array.replicate n (.int κ 0) := by
    apply Array.ext
    · simp [size_zeroCells]
    · intro i h1 h2
      simp [Builtin.zeroCells, Nat.mod_one]
  rw [this]
  simp [hi]
end Row

/-- Where the heap's blocks lie. -/
structure HB where
  h : Nat
  w : Nat
  c : Nat
  u : Nat
  r : Nat

def HB.fp (B : HB) (k : Nat) : Prop := k = B.h ∨ k = B.w ∨ k = B.c ∨ k = B.u ∨ k = B.r
def HB.wr (B : HB) (k : Nat) : Prop := k = B.w ∨ k = B.c ∨ k = B.u ∨ k = B.r

/-- The heap H lies at B. -/
structure HeapAt (w : World) (B : HB) (H : HS) : Prop where
  hd : w.heap[B.h]? = some (.cells #[.slice (some ⟨B.w, 0, none⟩) (64 * H.n) (64 * H.n), .slice (some ⟨B.c, 0, none⟩) H.n H.n, .slice (some ⟨B.u, 0, none⟩) H.n H.n, .slice (some ⟨B.r, 0, none⟩) H.n H.n] 104 (0, 0))
  wd : Row w B.w 3 .i64 (64 * H.n) H.words
  cl : Row w B.c 3 .i64 H.n H.cls
  us : Row w B.u 106 .u64 H.n (fun i => (H.used i : Int))
  rn : Row w B.r 3 .i64 H.n (fun i => (H.runs i : Int))
  hw : B.h ≠ B.w
  hc : B.h ≠ B.c
  hu : B.h ≠ B.u
  hr : B.h ≠ B.r
  wc : B.w ≠ B.c
  wu : B.w ≠ B.u
  wr : B.w ≠ B.r
  cu : B.c ≠ B.u
  cr : B.c ≠ B.r
  ur : B.u ≠ B.r

namespace HeapAt
variable {w w' : World} {B : HB} {H : HS} {F : Nat → Prop}
theorem keep (h : HeapAt w B H) (hk : Keeps F w w') (hF : ∀ k, B.fp k → ¬ F k) : HeapAt w' B H :=
  ⟨hk.at_ h.hd (hF _ (.inl rfl)), h.wd.keep hk (hF _ (.inr (.inl rfl))), h.cl.keep hk (hF _ (.inr (.inr (.inl rfl)))), h.us.keep hk (hF _ (.inr (.inr (.inr (.inl rfl))))), h.rn.keep hk (hF _ (.inr (.inr (.inr (.inr rfl))))),
    h.hw, h.hc, h.hu, h.hr, h.wc, h.wu, h.wr, h.cu, h.cr, h.ur⟩
theorem drewN (h : HeapAt w B H) (q : Nat) : HeapAt (w.drewN q) B H := ⟨h.hd, h.wd, h.cl, h.us, h.rn, h.hw, h.hc, h.hu, h.hr, h.wc, h.wu, h.wr, h.cu, h.cr, h.ur⟩
theorem drew (h : HeapAt w B H) : HeapAt w.drew B H := ⟨h.hd, h.wd, h.cl, h.us, h.rn, h.hw, h.hc, h.hu, h.hr, h.wc, h.wu, h.wr, h.cu, h.cr, h.ur⟩
theorem lt (h : HeapAt w B H) : ∀ k, B.fp k → k < w.heap.size := by
  intro k hk
  rcases hk with e | e | e | e | e <;> subst e
  · exact heap_lt h.hd
  · exact h.wd.lt
  · exact h.cl.lt
  · exact h.us.lt
  · exact h.rn.lt
theorem c0 (h : HeapAt w B H) : w.cell? ⟨B.h, 0, none⟩ = some (.slice (some ⟨B.w, 0, none⟩) (64 * H.n) (64 * H.n)) := by simp [World.cell?, h.hd]
theorem c1 (h : HeapAt w B H) : w.cell? ⟨B.h, 1, none⟩ = some (.slice (some ⟨B.c, 0, none⟩) H.n H.n) := by simp [World.cell?, h.hd]
theorem c2 (h : HeapAt w B H) : w.cell? ⟨B.h, 2, none⟩ = some (.slice (some ⟨B.u, 0, none⟩) H.n H.n) := by simp [World.cell?, h.hd]
theorem c3 (h : HeapAt w B H) : w.cell? ⟨B.h, 3, none⟩ = some (.slice (some ⟨B.r, 0, none⟩) H.n H.n) := by simp [World.cell?, h.hd]

theorem setWord (h : HeapAt w B H) {i : Nat} (hi : i < 64 * H.n) (v : Int) : HeapAt (w.setCell ⟨B.w, i, none⟩ (.int .i64 v)) B { H with words := setf H.words i v } :=
  ⟨(Below.heap_setCell w _ _ _ h.hw).trans h.hd, h.wd.set hi v, h.cl.other h.wc.symm _, h.us.other h.wu.symm _, h.rn.other h.wr.symm _, h.hw, h.hc, h.hu, h.hr, h.wc, h.wu, h.wr, h.cu, h.cr, h.ur⟩
theorem setCls (h : HeapAt w B H) {i : Nat} (hi : i < H.n) (v : Int) : HeapAt (w.setCell ⟨B.c, i, none⟩ (.int .i64 v)) B { H with cls := setf H.cls i v } :=
  ⟨(Below.heap_setCell w _ _ _ h.hc).trans h.hd, h.wd.other h.wc _, h.cl.set hi v, h.us.other h.cu.symm _, h.rn.other h.cr.symm _, h.hw, h.hc, h.hu, h.hr, h.wc, h.wu, h.wr, h.cu, h.cr, h.ur⟩
theorem setUsed (h : HeapAt w B H) {i : Nat} (hi : i < H.n) (v : Nat) : HeapAt (w.setCell ⟨B.u, i, none⟩ (.int .u64 v)) B { H with used := setf H.used i v } :=
  ⟨(Below.heap_setCell w _ _ _ h.hu).trans h.hd, h.wd.other h.wu _, h.cl.other h.cu _, (h.us.set hi v).congr (fun j _ => by by_cases e : j = i <;> simp [setf, e]), h.rn.other h.ur.symm _, h.hw, h.hc, h.hu, h.hr, h.wc, h.wu, h.wr, h.cu, h.cr, h.ur⟩
theorem setRuns (h : HeapAt w B H) {i : Nat} (hi : i < H.n) (v : Nat) : HeapAt (w.setCell ⟨B.r, i, none⟩ (.int .i64 v)) B { H with runs := setf H.runs i v } :=
  ⟨(Below.heap_setCell w _ _ _ h.hr).trans h.hd, h.wd.other h.wr _, h.cl.other h.cr _, h.us.other h.ur _, (h.rn.set hi v).congr (fun j _ => by by_cases e : j = i <;> simp [setf, e]), h.hw, h.hc, h.hu, h.hr, h.wc, h.wu, h.wr, h.cu, h.cr, h.ur⟩
theorem congr {H' : HS} (h : HeapAt w B H) (en : H'.n = H.n) (ew : ∀ i, i < 64 * H.n → H'.words i = H.words i) (ec : ∀ i, i < H.n → H'.cls i = H.cls i) (eu : ∀ i, i < H.n → H'.used i = H.used i) (er : ∀ i, i < H.n → H'.runs i = H.runs i) : HeapAt w B H' := by
  refine ⟨by rw [en]; exact h.hd, ?_, ?_, ?_, ?_, h.hw, h.hc, h.hu, h.hr, h.wc, h.wu, h.wr, h.cu, h.cr, h.ur⟩
  · rw [en]; exact h.wd.congr fun i hi => (ew i hi).symm
  · rw [en]; exact h.cl.congr fun i hi => (ec i hi).symm
  · rw [en]; exact h.us.congr fun i hi => by rw [eu i hi]
  · rw [en]; exact h.rn.congr fun i hi => by rw [er i hi]
end HeapAt
end Go.Proofs.Ytnbiofcfphpikaa
