/-
  What derricklaw07.made keeps in its second loop.
-/
import Derived.Test.YtnflgjhgegggcaaMadeP
namespace Go.Proofs.Ytnflgjhgegggcaa
open Go.RowKit

/-- The heaps, and the list. -/
structure Env (w0 wr : World) (B : HB) (rb : Nat) (G : Nat → Prop) (R : Nat → RawE) (m : Nat) (v : Value) (E : Nat → LB) (H : HS) : Prop where
  keeps : Keeps (fun _ => False) w0 wr
  heap : HeapAt wr B H
  shape : H = (mkH R m).with H.words
  ref : RefA w0 wr G rb (mkH R m)
  bg : ∀ k, B.fp k → G k
  row : wr.ownsRow w0.heap.size 37 5 v m (lball (LE E m))
  new : ∀ k, B.fp k → w0.heap.size ≤ k
/-- The words of block i, up to word k. -/
structure Bk (R : Nat → RawE) (m : Nat) (H : HS) (i k : Nat) : Prop where
  head : H.words (mkA R i) = mkh R i
  wd : ∀ t, t < k → H.words (mkA R i + 1 + t) = mkw R m i t
  z : ∀ t, k ≤ t → t + 1 < mkr R m i → H.words (mkA R i + 1 + t) = 0
def Zr (R : Nat → RawE) (m : Nat) (H : HS) (i : Nat) : Prop := ∀ t, t < mkr R m i → H.words (mkA R i + t) = 0
/-- An entry that is done: its words lie in a block of their own. -/
structure Ent (R : Nat → RawE) (m : Nat) (w : World) (B : HB) (E : Nat → LB) (j g : Nat) : Prop where
  e : E j = ⟨mkA R j, mkK R j, mkS R j, (R j).ms, some ⟨g, 0, none⟩, mkr R m j - 1, mkr R m j - 1⟩
  row : Row w g 3 .i64 (mkr R m j - 1) (mkw R m j)
  nf : ¬ B.fp g

namespace Env
variable {w0 wr w' : World} {B : HB} {rb m : Nat} {G G' : Nat → Prop} {R : Nat → RawE} {v : Value} {E : Nat → LB} {H : HS}
theorem wf (h : Env w0 wr B rb G R m v E H) (hF : Few R m) : H.Wf := by
  rw [h.shape]; exact (mkH_all hF m (Nat.le_refl _)).1.withWords _
theorem room (h : Env w0 wr B rb G R m v E H) (i : Nat) : H.room (mkA R i) = mkr R m i := by rw [h.shape]; rfl
theorem keep0 (h : Env w0 wr B rb G R m v E H) (hk : Keeps (fun _ => False) wr w') : Env w0 w' B rb G R m v E H :=
  ⟨h.keeps.trans hk (fun _ _ h => h), h.heap.keep hk (fun _ _ h => h), h.shape, h.ref.keep0 hk, h.bg, ownsRow_keeps h.row hk (fun _ _ h => h), h.new⟩
theorem alloc (h : Env w0 wr B rb G R m v E H) (o : Obj) : Env w0 (wr.alloc o) B rb G R m v E H := h.keep0 ((Keeps.refl _ wr).alloc o)
theorem store (h : Env w0 wr B rb G R m v E H) {W : Nat → Int} (hA : HeapAt w' B { H with words := W }) (hK : Keeps B.wr wr w') : Env w0 w' B rb G R m v E { H with words := W } :=
  ⟨h.keeps.trans hK (fun k hk e => by have := h.new k (.inr e); omega), hA, by have := h.shape; rw [this]; rfl, h.ref.keep hK (fun k e _ => h.bg k (.inr e)), h.bg, ownsRow_keeps h.row hK (fun k e hb => lrow_fp h.heap h.row k e (.inr hb)), h.new⟩
theorem make (h : Env w0 wr B rb G R m v E H) (o : Obj) : Env w0 (wr.alloc o) B rb (fun k => B.fp k ∨ k = wr.heap.size) R m v E H := by
  have h' := h.alloc o
  refine ⟨h'.keeps, h'.heap, h'.shape, h.ref.more ((Keeps.refl (fun _ => False) wr).alloc o) (fun _ h => h.elim) (fun k hk => ?_), fun k hk => .inl hk, h'.row, h.new⟩
  rcases hk with e | e
  · exact ⟨.inl (h.bg k e), Nat.lt_of_lt_of_le (h.heap.lt k e) (by simp)⟩
  · subst e; exact ⟨.inr (Nat.le_refl _), by simp⟩
theorem sub (h : Env w0 wr B rb G R m v E H) : Env w0 wr B rb B.fp R m v E H := ⟨h.keeps, h.heap, h.shape, h.ref.sub h.bg, fun _ h => h, h.row, h.new⟩
/-- A store into a row of numbers beside. -/
theorem put (h : Env w0 wr B rb G R m v E H) {g n : Nat} {f : Nat → Int} (hr : Row wr g 3 .i64 n f) (hg : G g) (hn : ¬ B.fp g) (hw : w0.heap.size ≤ g) (k : Nat) (u : Value) : Env w0 (wr.setCell ⟨g, k, none⟩ u) B rb G R m v E H := by
  have hK : Keeps (fun b => b = g) wr (wr.setCell ⟨g, k, none⟩ u) := (Keeps.refl (fun b => b = g) wr).setCell (p := ⟨g, k, none⟩) (fun _ => rfl) u
  refine ⟨h.keeps.trans hK (fun b hb e => by omega), h.heap.keep hK (fun b hb e => hn (e ▸ hb)), h.shape, h.ref.keep hK (fun b e _ => e ▸ hg), h.bg, ownsRow_keeps h.row hK (fun b e e' => ?_), h.new⟩
  subst e'
  rcases h.row.2 with ⟨rfl, _⟩ | ⟨g', cap, cur, rfl, _, hg', _⟩
  · simp [Value.ownBlock] at e
  · simp [Value.ownBlock] at e
    subst e
    obtain ⟨c, hc, _⟩ := hr
    rw [hc] at hg'
    simp at hg'
/-- A store into the list. -/
theorem set {b n cl : Nat} (h : Env w0 wr B rb G R m (.slice (some ⟨b, 0, none⟩) n cl) E H) {i : Nat} (hi : i < m) (j : Nat) (hj : j < 5) (u : Value) (y : LB) (hy : y.cells = (E i).cells.set j u) :
    Env w0 (wr.setCell ⟨b, i * 5 + j, none⟩ u) B rb G R m (.slice (some ⟨b, 0, none⟩) n cl) (setf E i y) H ∧ Keeps (fun k => k = b) wr (wr.setCell ⟨b, i * 5 + j, none⟩ u) := by
  have hl : (LE E m).length = m := LE_length E m
  have hrow := h.row
  have h0 := lrow_set (by rw [hl]; exact hrow) (by rw [hl]; exact hi) j hj u y (by rw [LE_at E hi]; exact hy)
  rw [List.length_set, hl, LE_set] at h0
  have hK := h0.2
  have hb := lrow_fp h.heap h.row b rfl
  refine ⟨⟨h.keeps.trans hK (fun k hk e => by have := (h.row.lt b rfl).1; omega), h.heap.keep hK (fun k hk e => hb (e ▸ hk)), h.shape, ?_, h.bg, h0.1, h.new⟩, hK⟩
  obtain ⟨lv, L, h1, h2, h3⟩ := h.ref
  exact ⟨lv, L, h1.keep hK (fun k hk e => lrow_RFp h1 h.row b rfl (e ▸ hk)), h2, fun k hk => Nat.lt_of_lt_of_le (h3 k hk) hK.size⟩
end Env

theorem lrow_row_ne {w : World} {base n m : Nat} {v : Value} {xs : List Value} {g : Nat} {f : Nat → Int} (h : w.ownsRow base 37 5 v n xs) (hr : Row w g 3 .i64 m f) : v.ownBlock ≠ some g := by
  intro e
  rcases h.2 with ⟨rfl, _⟩ | ⟨g', cap, cur, rfl, _, hg, _⟩
  · simp [Value.ownBlock] at e
  · simp [Value.ownBlock] at e
    subst e
    obtain ⟨c, hc, _⟩ := hr
    rw [hc] at hg
    simp at hg
theorem Ent.keep {R : Nat → RawE} {m : Nat} {w w' : World} {B : HB} {E E' : Nat → LB} {j g : Nat} {F : Nat → Prop} (h : Ent R m w B E j g) (hk : Keeps F w w') (hF : ¬ F g) (he : E' j = E j) : Ent R m w' B E' j g := ⟨he.trans h.e, h.row.keep hk hF, h.nf⟩

section
variable {R : Nat → RawE} {m : Nat} {H : HS} {i j k : Nat}
theorem Bk.other (h : Bk R m H j k) (hF : Few R m) (hi : i < m) (hj : j < m) (hne : j ≠ i) (hk : k + 1 ≤ mkr R m j) {t : Nat} (ht : t < mkr R m i) (x : Int) : Bk R m { H with words := setf H.words (mkA R i + t) x } j k := by
  have h2 := (mkr_ge hF hj).2.2.2.2
  have ne : ∀ u, u < mkr R m j → mkA R j + u ≠ mkA R i + t := fun u hu => mk_apart hF hj hi hne hu ht
  refine ⟨(setf_ne _ _ (by have := ne 0 (by omega); omega)).trans h.head, fun t' ht' => (setf_ne _ _ (by have := ne (1 + t') (by omega); omega)).trans (h.wd t' ht'), fun t' h1' h2' => (setf_ne _ _ (by have := ne (1 + t') (by omega); omega)).trans (h.z t' h1' h2')⟩
theorem Zr.other (h : Zr R m H j) (hF : Few R m) (hi : i < m) (hj : j < m) (hne : j ≠ i) {t : Nat} (ht : t < mkr R m i) (x : Int) : Zr R m { H with words := setf H.words (mkA R i + t) x } j :=
  fun u hu => (setf_ne _ _ (mk_apart hF hj hi hne hu ht)).trans (h u hu)
theorem Zr.head (h : Zr R m H i) : Bk R m { H with words := setf H.words (mkA R i) (mkh R i) } i 0 := by
  refine ⟨setf_same _ _ _, fun t ht => by omega, fun t _ ht => (setf_ne _ _ (by omega)).trans ?_⟩
  have := h (1 + t) (by omega)
  rw [← Nat.add_assoc] at this
  exact this
theorem Bk.step (h : Bk R m H i k) (_hk : k + 1 < mkr R m i) : Bk R m { H with words := setf H.words (mkA R i + (k + 1)) (mkw R m i k) } i (k + 1) := by
  refine ⟨(setf_ne _ _ (by omega)).trans h.head, fun t ht => ?_, fun t h1 h2 => (setf_ne _ _ (by omega)).trans (h.z t (by omega) h2)⟩
  by_cases e : t = k
  · subst e
    have : mkA R i + 1 + t = mkA R i + (t + 1) := by omega
    show setf _ _ _ _ = _
    rw [this]; exact setf_same _ _ _
  · exact (setf_ne _ _ (by omega)).trans (h.wd t (by omega))
theorem Bk.full (h : Bk R m H i (R i).wl) (hk : (R i).wl + 1 ≤ mkr R m i) : Bk R m H i (mkr R m i - 1) := by
  refine ⟨h.head, fun t ht => ?_, fun t h1 h2 => by omega⟩
  by_cases e : t < (R i).wl
  · exact h.wd t e
  · rw [h.z t (by omega) (by omega)]
    unfold mkw
    rw [if_neg e]
end
/-- Ahead of the second loop's round i. -/
structure M2 (w0 wr : World) (B : HB) (rb : Nat) (R : Nat → RawE) (m i : Nat) (v : Value) (E : Nat → LB) (H : HS) : Prop where
  env : Env w0 wr B rb B.fp R m v E H
  ea : ∀ j, j < m → (E j).a = mkA R j
  done : ∀ j, j < i → Bk R m H j (mkr R m j - 1) ∧ ∃ g, Ent R m wr B E j g
  todo : ∀ j, i ≤ j → j < m → E j = rawLB R j
  zero : ∀ j, i ≤ j → j < m → Zr R m H j
/-- In the round: block i has its header, and k of its words; they lie in g, too. -/
structure M3 (w0 wr : World) (B : HB) (rb : Nat) (R : Nat → RawE) (m i k g : Nat) (v : Value) (E : Nat → LB) (H : HS) : Prop where
  env : Env w0 wr B rb (fun x => B.fp x ∨ x = g) R m v E H
  ea : ∀ j, j < m → (E j).a = mkA R j
  done : ∀ j, j < i → Bk R m H j (mkr R m j - 1) ∧ ∃ g', g' ≠ g ∧ Ent R m wr B E j g'
  mine : E i = ⟨mkA R i, mkK R i, mkS R i, (R i).ms, (R i).wa, (R i).wl, (R i).wc⟩
  todo : ∀ j, i < j → j < m → E j = rawLB R j
  zero : ∀ j, i < j → j < m → Zr R m H j
  bk : Bk R m H i k
  row : Row wr g 3 .i64 (mkr R m i - 1) (fun t => if t < k then mkw R m i t else 0)
  nf : ¬ B.fp g
  gn : w0.heap.size ≤ g

section
variable {w0 wr wa wb : World} {B : HB} {rb m i k g : Nat} {R : Nat → RawE} {v : Value} {E E' : Nat → LB} {H : HS}
theorem M1.two (h : M1 w0 wr B rb R m v) (hF : Few R m) : M2 w0 wr B rb R m 0 v (rawLB R) (mkH R m) := by
  refine ⟨⟨h.keeps, h.heap, ?_, h.ref, fun _ h => h, h.row, h.new⟩, fun j _ => rfl, fun j hj => by omega, fun j _ _ => rfl, fun j _ _ t _ => mk_zero hF m (Nat.le_refl _) _⟩
  rw [show (mkH R m).words = fun _ => 0 from funext (mk_zero hF m (Nat.le_refl _))]
  exact (with_same hF (Nat.le_refl _)).symm
/-- The header, and the new row. E' is E, or E with block i's kind and size struck. -/
theorem M2.begin {Z : Array Value} (h : M2 w0 wr B rb R m i v E H) (hF : Few R m) (hi : i < m) {F : Nat → Prop} (hk : Keeps F wr wa) (hFv : ∀ b, F b → v.ownBlock = some b) (he : Env w0 wa B rb B.fp R m v E' H) (hE : ∀ j, j ≠ i → E' j = E j) (hEi : E' i = ⟨mkA R i, mkK R i, mkS R i, (R i).ms, (R i).wa, (R i).wl, (R i).wc⟩)
    (hA : HeapAt wb B { H with words := setf H.words (mkA R i) (mkh R i) }) (hKb : Keeps B.wr wa wb) (hZ : Z.size = mkr R m i - 1 ∧ ∀ t, t < mkr R m i - 1 → Z[t]? = some (.int .i64 0)) :
    M3 w0 (wb.alloc (.cells Z 3)) B rb R m i 0 wb.heap.size v E' { H with words := setf H.words (mkA R i) (mkh R i) } := by
  have he2 := he.store hA hKb
  have hr := mkr_ge hF hi
  refine ⟨he2.make _, fun j hj => ?_, fun j hj => ?_, hEi, fun j h1 h2 => (hE j (by omega)).trans (h.todo j (by omega) h2), fun j h1 h2 => ?_, (h.zero i (Nat.le_refl _) hi).head, ?_, fun hf => ?_, he2.keeps.size⟩
  · by_cases e : j = i
    · subst e; rw [hEi]
    · rw [hE j e]; exact h.ea j hj
  · obtain ⟨h1, g', h2⟩ := h.done j hj
    have hrj := mkr_ge hF (show j < m by omega)
    have hne : v.ownBlock ≠ some g' := lrow_row_ne h.env.row h2.row
    have h3 := (h2.keep (E' := E') hk (fun hf => hne (hFv _ hf)) (hE j (by omega))).keep (E' := E') hKb (fun hf => h2.nf (.inr hf)) rfl
    refine ⟨?_, g', fun e => ?_, h3.keep ((Keeps.refl (fun _ => False) wb).alloc _) (fun h => h) rfl⟩
    · have := h1.other hF hi (by omega) (by omega) (by omega) (t := 0) (by omega) (mkh R i)
      exact this
    · have := h3.row.lt; omega
  · have := (h.zero j (by omega) h2).other hF hi h2 (by omega) (t := 0) (by omega) (mkh R i)
    exact this
  · refine ⟨Z, heap_alloc_new wb _, hZ.1, fun t ht => ?_⟩
    rw [hZ.2 t ht]; simp
  · have := he2.heap.lt _ hf; omega
theorem M3.step (h : M3 w0 wr B rb R m i k g v E H) (hF : Few R m) (hi : i < m) (hk : k < (R i).wl)
    (hA : HeapAt wb B { H with words := setf H.words (mkA R i + (k + 1)) (mkw R m i k) }) (hKb : Keeps B.wr (wr.setCell ⟨g, k, none⟩ (.int .i64 (mkw R m i k))) wb) :
    M3 w0 wb B rb R m i (k + 1) g v E { H with words := setf H.words (mkA R i + (k + 1)) (mkw R m i k) } := by
  have hr := mkr_ge hF hi
  have he := h.env.put h.row (.inr rfl) h.nf h.gn k (.int .i64 (mkw R m i k))
  have he2 := he.store hA hKb
  have hKg : Keeps (fun b => b = g) wr (wr.setCell ⟨g, k, none⟩ (.int .i64 (mkw R m i k))) := (Keeps.refl (fun b => b = g) wr).setCell (p := ⟨g, k, none⟩) (fun _ => rfl) _
  refine ⟨he2, h.ea, fun j hj => ?_, h.mine, h.todo, fun j h1 h2 => (h.zero j h1 h2).other hF hi h2 (by omega) (by omega) _, h.bk.step (by omega), ?_, h.nf, h.gn⟩
  · obtain ⟨h1, g', hne, h2⟩ := h.done j hj
    have hrj := mkr_ge hF (show j < m by omega)
    exact ⟨h1.other hF hi (by omega) (by omega) (by omega) (by omega) _, g', hne, (h2.keep (E' := E) hKg hne rfl).keep (E' := E) hKb (fun hf => h2.nf (.inr hf)) rfl⟩
  · refine ((h.row.set (i := k) (by omega) (mkw R m i k)).keep hKb (fun hf => h.nf (.inr hf))).congr fun t ht => ?_
    by_cases e : t = k
    · subst e; rw [setf_same, if_pos (by omega)]
    · rw [setf_ne _ _ e]
      by_cases e2 : t < k
      · rw [if_pos e2, if_pos (by omega)]
      · rw [if_neg e2, if_neg (by omega)]
theorem M3.fin {b n cl : Nat} (h : M3 w0 wr B rb R m i (R i).wl g (.slice (some ⟨b, 0, none⟩) n cl) E H) (hF : Few R m) (hi : i < m) :
    M2 w0 (wr.setCell ⟨b, i * 5 + 4, none⟩ (.slice (some ⟨g, 0, none⟩) (mkr R m i - 1) (mkr R m i - 1))) B rb R m (i + 1) (.slice (some ⟨b, 0, none⟩) n cl) (setf E i ⟨mkA R i, mkK R i, mkS R i, (R i).ms, some ⟨g, 0, none⟩, mkr R m i - 1, mkr R m i - 1⟩) H := by
  have hr := mkr_ge hF hi
  have hs := h.env.set hi 4 (by omega) (.slice (some ⟨g, 0, none⟩) (mkr R m i - 1) (mkr R m i - 1)) ⟨mkA R i, mkK R i, mkS R i, (R i).ms, some ⟨g, 0, none⟩, mkr R m i - 1, mkr R m i - 1⟩ (by rw [h.mine]; rfl)
  have hb : ∀ {g' : Nat} {f : Nat → Int} {n' : Nat}, Row wr g' 3 .i64 n' f → ¬ g' = b := fun hr e => lrow_row_ne h.env.row hr (by rw [e]; rfl)
  refine ⟨hs.1.sub, fun j hj => ?_, fun j hj => ?_, fun j h1 h2 => (setf_ne _ _ (by omega)).trans (h.todo j (by omega) h2), fun j h1 h2 => h.zero j (by omega) h2⟩
  · by_cases e : j = i
    · subst e; rw [setf_same]
    · rw [setf_ne _ _ e]; exact h.ea j hj
  · by_cases e : j = i
    · subst e
      refine ⟨h.bk.full hr.1, g, setf_same _ _ _, (h.row.keep hs.2 (hb h.row)).congr fun t ht => ?_, h.nf⟩
      by_cases e2 : t < (R j).wl
      · rw [if_pos e2]
      · rw [if_neg e2]; unfold mkw; rw [if_neg e2]
    · obtain ⟨h1, g', hne, h2⟩ := h.done j (by omega)
      exact ⟨h1, g', h2.keep hs.2 (hb h2.row) (setf_ne _ _ e)⟩
end
end Go.Proofs.Ytnflgjhgegggcaa
