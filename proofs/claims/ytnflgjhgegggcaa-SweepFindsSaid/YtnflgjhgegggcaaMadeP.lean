/-
  What derricklaw07.made keeps as it goes.
-/
import Derived.Test.YtnflgjhgegggcaaLb
import Derived.Test.YtnflgjhgegggcaaBase
namespace Go.Proofs.Ytnflgjhgegggcaa
open Go.RowKit

/-- A list by its entries. -/
def LE (E : Nat → LB) (m : Nat) : List LB := (List.range m).map E
theorem LE_length (E : Nat → LB) (m : Nat) : (LE E m).length = m := by simp [LE]
theorem LE_at (E : Nat → LB) {m i : Nat} (h : i < m) : lbat (LE E m) i = E i := by rw [lbat_get (by rw [LE_length]; exact h)]; simp [LE]
theorem LE_snoc (E : Nat → LB) (m : Nat) : LE E (m + 1) = LE E m ++ [E m] := by simp [LE, List.range_succ]
theorem LE_set (E : Nat → LB) (m i : Nat) (y : LB) : (LE E m).set i y = LE (setf E i y) m := by
  apply List.ext_getElem?
  intro j
  unfold LE
  by_cases hj : j < m
  · by_cases e : i = j
    · subst e
      rw [List.getElem?_set_self (by simpa using hj), List.getElem?_map, List.getElem?_range hj]
      simp [setf_same]
    · rw [List.getElem?_set_ne e, List.getElem?_map, List.getElem?_map, List.getElem?_range hj]
      simp [setf_ne _ _ (Ne.symm e)]
  · rw [List.getElem?_eq_none (by simp; omega), List.getElem?_eq_none (by simp; omega)]
theorem LE_congr {E F : Nat → LB} {m : Nat} (h : ∀ i, i < m → E i = F i) : LE E m = LE F m := by
  unfold LE
  exact List.map_congr_left fun i hi => h i (List.mem_range.1 hi)

section
variable (R : Nat → RawE) (m : Nat)
def rawLB (i : Nat) : LB := ⟨mkA R i, (R i).kd, (R i).sz, (R i).ms, (R i).wa, (R i).wl, (R i).wc⟩
/-- The room of the i-th block. -/
def mkr (i : Nat) : Nat := (mkH R m).room (mkA R i)
/-- Its header. -/
def mkh (i : Nat) : Int := hdr (R i).kd (R i).sz (R i).ms
def mkK (i : Nat) : Int := if mkh R i = 0 then 0 else (R i).kd
def mkS (i : Nat) : Int := if mkh R i = 0 then 0 else (R i).sz
/-- A word that comes in: below 0 it names a block. -/
def mkv (v : Int) : Int := if v < 0 then (mkA R ((-(v + 1)).toNat % m) : Nat) else v
/-- Its words. -/
def mkw (i t : Nat) : Int := if t < (R i).wl then mkv R m ((R i).ws t) else 0
end

theorem mk_listed {R : Nat → RawE} {len : Nat} (hF : Few R len) : ∀ k, k ≤ len → HS.Listed (mkH R k) 128 k (mkA R)
  | 0, _ => HS.new_listed (x := 8192) (by omega) (new_wf (by omega) (by omega))
  | k + 1, hk => by
    have h := mk_listed hF k (by omega)
    obtain ⟨r, h1, h2, h3⟩ := (mkH_all hF (k + 1) hk).2.2.2 k (by omega)
    have := h.add h2
    have e : setf (mkA R) k (mkA R k) = mkA R := by
      funext j
      by_cases e : j = k
      · subst e; exact setf_same _ _ _
      · exact setf_ne _ _ e
    rw [e] at this
    exact this
theorem mk_room_keep {R : Nat → RawE} {len : Nat} (hF : Few R len) : ∀ k, k ≤ len → ∀ j, j < k → (mkH R k).room (mkA R j) = (mkH R (j + 1)).room (mkA R j)
  | 0, _ => fun j hj => by omega
  | k + 1, hk => fun j hj => by
    obtain ⟨r, h1, h2, h3⟩ := (mkH_all hF (k + 1) hk).2.2.2 k (by omega)
    by_cases e : j = k
    · subst e; rfl
    · have hne : mkA R j ≠ mkA R k := by
        intro e'
        have hl := mk_listed hF (k + 1) hk
        exact e (hl.inj j k (by omega) (by omega) e')
      rw [h2.other _ hne]
      exact mk_room_keep hF k (by omega) j (by omega)
/-- The blocks' rooms. -/
theorem mkr_ge {R : Nat → RawE} {len : Nat} (hF : Few R len) {i : Nat} (hi : i < len) : (R i).wl + 1 ≤ mkr R len i ∧ mkr R len i ≠ 0 ∧ mkr R len i ≤ 1048576 ∧ mkA R i ≤ 1048576 ∧ 2 ≤ mkr R len i := by
  have hall := mkH_all hF len (Nat.le_refl _)
  obtain ⟨r, h1, h2, h3⟩ := (mkH_all hF (i + 1) hi).2.2.2 i (by omega)
  have e : mkr R len i = r := by unfold mkr; rw [mk_room_keep hF len (Nat.le_refl _) i hi]; exact h2.is
  have hin := hall.1.inside (a := mkA R i) (by unfold mkr at e; rw [e]; exact h2.pos)
  have hn := hall.2.1
  unfold mkr at e
  rw [e, hn] at hin
  unfold mkr
  rw [e]
  exact ⟨h3, h2.pos, hin.2.2.2.2, by omega, hin.2.2.1⟩
theorem mk_zero {R : Nat → RawE} {len : Nat} (hF : Few R len) : ∀ k, k ≤ len → ∀ b, (mkH R k).words b = 0
  | 0, _ => fun b => rfl
  | k + 1, hk => fun b => by
    obtain ⟨r, h1, h2, h3⟩ := (mkH_all hF (k + 1) hk).2.2.2 k (by omega)
    rw [h2.words]
    unfold setr
    split
    · rfl
    · exact mk_zero hF k (by omega) b
/-- Two blocks' words are not one. -/
theorem mk_apart {R : Nat → RawE} {len : Nat} (hF : Few R len) {i j : Nat} (hi : i < len) (hj : j < len) (hne : i ≠ j) {t u : Nat} (ht : t < mkr R len i) (hu : u < mkr R len j) : mkA R i + t ≠ mkA R j + u := by
  have hl := mk_listed hF len (Nat.le_refl _)
  have h1 := hl.wf.apart (a := mkA R i) (b := mkA R j) (by have := (mkr_ge hF hi).2.1; exact this) (by have := (mkr_ge hF hj).2.1; exact this) (fun e => hne (hl.inj i j hi hj e))
  unfold mkr at ht hu
  omega
def HS.with (H : HS) (W : Nat → Int) : HS := { H with words := W }
theorem with_same {R : Nat → RawE} {len k : Nat} (hF : Few R len) (hk : k ≤ len) : (mkH R k).with (fun _ => 0) = mkH R k := by
  have := mk_zero hF k hk
  unfold HS.with
  cases h : mkH R k with
  | mk n w c u r =>
    rw [h] at this
    congr 1
    funext b
    exact (this b).symm

/-- Ahead of the first loop's round k. -/
structure M1 (w0 wr : World) (B : HB) (rb : Nat) (R : Nat → RawE) (k : Nat) (v : Value) : Prop where
  keeps : Keeps (fun _ => False) w0 wr
  heap : HeapAt wr B (mkH R k)
  ref : RefA w0 wr B.fp rb (mkH R k)
  row : wr.ownsRow w0.heap.size 37 5 v k (lball (LE (rawLB R) k))
  new : ∀ k, B.fp k → w0.heap.size ≤ k

/-- No block of the heap is a row of blocks. -/
theorem lrow_fp {w : World} {B : HB} {H : HS} {base n : Nat} {v : Value} {xs : List Value} (hA : HeapAt w B H) (h : w.ownsRow base 37 5 v n xs) : ∀ k, v.ownBlock = some k → ¬ B.fp k := by
  intro k hk hf
  rcases h.2 with ⟨rfl, _⟩ | ⟨g', cap, cur, rfl, _, hg, _⟩
  · simp [Value.ownBlock] at hk
  · simp [Value.ownBlock] at hk
    subst hk
    rcases hf with e | e | e | e | e
    · have := hA.hd; rw [← e, hg] at this; simp at this
    · obtain ⟨c, hc, _⟩ := hA.wd; rw [← e, hg] at hc; simp at hc
    · obtain ⟨c, hc, _⟩ := hA.cl; rw [← e, hg] at hc; simp at hc
    · obtain ⟨c, hc, _⟩ := hA.us; rw [← e, hg] at hc; simp at hc
    · obtain ⟨c, hc, _⟩ := hA.rn; rw [← e, hg] at hc; simp at hc
/-- .. nor is anything of the document's heap. -/
theorem lrow_RFp {w : World} {rb : Nat} {lv : Value} {L : List RB} {H : HS} {base n : Nat} {v : Value} {xs : List Value} (h1 : RefAt w rb lv L H) (h : w.ownsRow base 37 5 v n xs) : ∀ k, v.ownBlock = some k → ¬ RFp rb lv L k := by
  intro k hk hf
  rcases h.2 with ⟨rfl, _⟩ | ⟨g', cap, cur, rfl, _, hg, _⟩
  · simp [Value.ownBlock] at hk
  · simp [Value.ownBlock] at hk
    subst hk
    rcases hf with e | e | ⟨x, hx, e⟩
    · have := h1.hd
      rw [← e, hg] at this
      simp at this
    · rcases h1.row.2 with ⟨e', _⟩ | ⟨g2, cap2, cur2, e', _, hg2, _⟩
      · rw [e'] at e; simp [Value.ownBlock] at e
      · rw [e'] at e
        simp [Value.ownBlock] at e
        rw [e, hg] at hg2
        simp at hg2
    · obtain ⟨c, hc, _⟩ := h1.wds x hx
      rw [e, hg] at hc
      simp at hc
/-- .. nor is the document's heap. -/
theorem lrow_rb {w : World} {w0 : World} {R : Nat → Prop} {rb : Nat} {H : HS} {base n : Nat} {v : Value} {xs : List Value} (hA : RefA w0 w R rb H) (h : w.ownsRow base 37 5 v n xs) : ∀ k, v.ownBlock = some k → k ≠ rb := by
  intro k hk e
  obtain ⟨lv, L, h1, _⟩ := hA
  rcases h.2 with ⟨rfl, _⟩ | ⟨g', cap, cur, rfl, _, hg, _⟩
  · simp [Value.ownBlock] at hk
  · simp [Value.ownBlock] at hk
    subst hk
    have := h1.hd
    rw [← e, hg] at this
    simp at this
theorem M1.step {w0 wr wa wb wc : World} {B : HB} {rb k : Nat} {R : Nat → RawE} {v v' : Value} {o : Obj} (h : M1 w0 wr B rb R k v) (hA : HeapAt wa B (mkH R (k + 1))) (hKa : Keeps B.wr wr wa) (hR : RefA w0 wb B.fp rb (mkH R (k + 1))) (hKb : Keeps (fun x => x = rb) wa wb)
    (hO : wc.ownsRow w0.heap.size 37 5 v' (k + 1) (lball (LE (rawLB R) k) ++ (rawLB R k).cells)) (hKc : Keeps (fun b => v.ownBlock = some b) (wb.alloc o) wc) : M1 w0 wc B rb R (k + 1) v' := by
  have hv := fun b e => (h.row.lt b e).1
  have hv2 := lrow_fp h.heap h.row
  have hKc' : Keeps (fun b => v.ownBlock = some b) wb wc := ((Keeps.refl _ wb).alloc o).trans hKc (fun _ _ h => h)
  have hvl := fun b e => (h.row.lt b e).2
  have hsa := hKa.size
  have hsb := hKb.size
  refine ⟨?_, ?_, ?_, ?_, h.new⟩
  · exact ((h.keeps.trans hKa (fun b hb e => by have := h.new b (.inr e); omega)).trans hKb (fun b hb e => by have := hR.rb_new.1; omega)).trans hKc' (fun b hb e => by have := hv b e; omega)
  · exact (hA.keep hKb (fun b hb e => hR.rb_new.2.1 (e ▸ hb))).keep hKc' (fun b hb e => hv2 b e hb)
  · have hrb := hR.rb_new
    have hrow : wb.ownsRow w0.heap.size 37 5 v k (lball (LE (rawLB R) k)) := ownsRow_keeps (ownsRow_keeps h.row hKa (fun b e hb => hv2 b e (.inr hb))) hKb (fun b e e' => lrow_rb h.ref h.row b e e')
    obtain ⟨lv', L', h1', h2', h3'⟩ := hR
    exact ⟨lv', L', h1'.keep hKc' (fun b hb e => lrow_RFp h1' hrow b e hb), h2', fun b hb => Nat.lt_of_lt_of_le (h3' b hb) hKc'.size⟩
  · rw [LE_snoc, lball_append, lball_one]; exact hO
end Go.Proofs.Ytnflgjhgegggcaa
