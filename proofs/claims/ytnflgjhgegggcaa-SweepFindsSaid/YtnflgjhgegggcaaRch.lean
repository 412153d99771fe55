/-
  The walk of sweep.Reached: a range over the map of the marks, and a sort.
-/
import Derived.Test.YtnflgjhgegggcaaV3
import Derived.Test.YtnflgjhgegggcaaSort
import Derived.Test.YtnflgjhgegggcaaSorted
import Derived.Maps.RangeWalk
import Derived.Sort.OwnSortedInts
namespace Go.Proofs.Ytnflgjhgegggcaa
open Go.RowKit Go.Maps

theorem has_of_atKey {D : DataW Unit} {k : Lit} {z : DataW Unit} (h : D.atKey k z ≠ z) : has D k = true := by
  cases D <;> try exact absurd rfl h
  rename_i es
  rw [has_eq]
  unfold DataW.atKey at h
  simp only [] at h
  cases hf : es.find? (fun p => p.1.sameKey k) with
  | none => rw [hf] at h; exact absurd rfl h
  | some p => exact List.any_eq_true.2 ⟨p, List.mem_of_find?_eq_some hf, (List.find?_some (p := fun p : Lit × DataW Unit => p.1.sameKey k) hf)⟩
theorem sameKey_int (x y : Int) : (Lit.int .i64 x).sameKey (.int .i64 y) = true → x = y := by
  intro h
  have := WideAt.sameKey_eq h
  cases this; rfl

/-- A range over the marks S (block b) is under way (its block: r): m has come. -/
def RngIt (wr : World) (b r : Nat) (S m : List Int) (cnt : Nat) : Prop :=
  ∃ D left n, wr.ranges Try.prog 3 (plainElem (H := Unit) Try.prog 4) b r n D left cnt ∧ (∀ x, D.atKey (.int .i64 x) (.lit (.bool false)) = .lit (.bool (S.contains x))) ∧ (∀ x, D.atKey (.int .i64 x) (.lit (.bool true)) = .lit (.bool true)) ∧
    (∀ x, left (.int .i64 x) = true → x ∉ m) ∧ ∀ x, x ∈ S → x ∈ m ∨ left (.int .i64 x) = true
theorem RngIt.left_eq {wr : World} {b r cnt : Nat} {S m : List Int} (h : RngIt wr b r S m cnt) : wr.rangeLeft b r = cnt := by
  obtain ⟨D, left, n, h1, _⟩ := h
  exact h1.left_eq
theorem RngIt.keep {w w' : World} {b r cnt : Nat} {S m : List Int} {F : Nat → Prop} (h : RngIt w b r S m cnt) (hk : Keeps F w w') (hb : ¬ F b) (hr : ¬ F r) : RngIt w' b r S m cnt := by
  obtain ⟨D, left, n, ⟨es, clock, since, seen, c0, h1, h2, h3, h4, h5, h6⟩, h7⟩ := h
  exact ⟨D, left, n, ⟨es, clock, since, seen, c0, (hk.block b (heap_lt h1) hb).trans h1, h2, h3, h4, (hk.block r (heap_lt h5) hr).trans h5, h6⟩, h7⟩

theorem plainElem_bool_inv {v : Value} {z : DataW Unit × List MemPlace} (h : plainElem Try.prog 4 v = some z) : ∃ c, v = .bool c ∧ z = (.lit (.bool c), []) := by
  unfold plainElem at h
  rw [und_bool] at h
  cases v <;> simp at h
  exact ⟨_, rfl, h.symm⟩

section
variable {w wr : World} {b r cnt : Nat} {S m l : List Int} {v : Value} {ops : Array Oper} {rest : List Oper} {o : Oper} {a : Act} {Q : Exit → Act → World → Prop}
theorem wpList_range_marks (hg : o.guard = none) (x : Operand) (hop : o.op = Op.range 70 x) (hm : a.eval x = .map (some b)) (h : Marks wr b S)
    (hK : ∀ w', RngIt w' b wr.heap.size S [] (w'.rangeLeft b wr.heap.size) → Keeps (fun _ => False) wr w' → wr.heap.size < w'.heap.size → wpList Try.prog ops Q rest (a.put o.dst (.pointer (some ⟨wr.heap.size, 0, none⟩))) w') :
    wpList Try.prog ops Q (o :: rest) a wr := by
  obtain ⟨D, h1, h2, h3, h4⟩ := h
  refine wpList_range_own wr hg x 70 hop 3 4 int_key und_map _ b S.length D hm h1 ?_
  intro w' hrg hgr hs
  refine hK w' ⟨D, _, _, by rw [hrg.left_eq]; exact hrg, h3, h4, fun x _ => by simp, fun x hx => .inr ?_⟩ ⟨hgr.os, hgr.tape, hgr.output, hgr.size, fun k hk _ => hgr.block k hk (by simp)⟩ (by omega)
  refine has_of_atKey (z := .lit (.bool false)) ?_
  rw [h3 x]
  have : S.contains x = true := by simpa using hx
  rw [this]
  intro h
  cases h
theorem wpList_next_marks (hg : o.guard = none) (it : Operand) (hop : o.op = Op.next it false) (hit : a.eval it = .pointer (some ⟨r, 0, none⟩)) (h : RngIt wr b r S m cnt)
    (hDone : (∀ x ∈ S, x ∈ m) → wpList Try.prog ops Q rest (a.put o.dst (.tuple #[.bool false])) wr)
    (hMore : ∀ x w' cnt', x ∈ S → x ∉ m → cnt' < cnt → RngIt w' b r S (m ++ [x]) cnt' → Keeps (fun k => k = r) wr w' → (Instr.entry (.pointer (some ⟨r, 0, none⟩))).run Try.prog w' = .ok (.tuple #[.int .i64 x, .bool true]) w' →
      wpList Try.prog ops Q rest (a.put o.dst (.tuple #[.bool true, .int .i64 x, .bool true])) w') :
    wpList Try.prog ops Q (o :: rest) a wr := by
  obtain ⟨D, left, n, h1, h2, h3, h4, h5⟩ := h
  refine wpList_next_ranges wr hg it hop 3 int_key _ (Value.int .i64) Value.bool (fun key kl hkey => by obtain ⟨x, rfl, _⟩ := Maps.keyOf_int_inv und_int hkey; exact ⟨x, rfl⟩) (fun v y hv => by obtain ⟨c, rfl, _⟩ := plainElem_bool_inv hv; exact ⟨c, rfl⟩) b r n D left cnt hit h1
    (fun _ hl => hDone fun x hx => (h5 x hx).resolve_right (by rw [hl]; simp)) ?_
  intro x c kl y w' cnt' hkey hlk hv hat hrg hlt hgr hsz hen
  obtain ⟨x', ex, rfl, hwx⟩ := Maps.keyOf_int_inv und_int hkey
  cases ex
  obtain ⟨c', ec, rfl⟩ := plainElem_bool_inv hv
  cases ec
  have e1 := hat (.lit (.bool true))
  rw [h3 x] at e1
  have hc : c = true := by cases c with | true => rfl | false => cases e1
  subst hc
  have e2 := hat (.lit (.bool false))
  rw [h2 x] at e2
  have hS : x ∈ S := by
    have : S.contains x = true := by cases h : S.contains x with | true => rfl | false => rw [h] at e2; cases e2
    simpa using this
  refine hMore x w' cnt' hS (h4 x hlk) hlt ⟨D, _, n, hrg, h2, h3, fun z hz => ?_, fun z hz => ?_⟩ ⟨hgr.os, hgr.tape, hgr.output, hgr.size, fun k hk hn => hgr.block k hk (fun e => hn (by simpa using e))⟩ hen
  · simp only [Bool.and_eq_true, Bool.not_eq_true'] at hz
    rw [List.mem_append, List.mem_singleton]
    rintro (e | e)
    · exact h4 z hz.1 e
    · subst e
      rw [WideAt.sameKey_self (isKey_lit hwx)] at hz
      exact absurd hz.2 (by simp)
  · rcases h5 z hz with e | e
    · exact .inl (List.mem_append_left _ e)
    · by_cases e2 : z = x
      · subst e2; exact .inl (by simp)
      · right
        simp only [e, Bool.true_and, Bool.not_eq_true']
        cases hs : (Lit.int .i64 z).sameKey (.int .i64 x) with
        | false => rfl
        | true => exact absurd (sameKey_int _ _ hs) e2
end

/-- The loop. -/
structure RngL (w wr : World) (b r : Nat) (S : List Int) (v : Value) (l : List Int) (cnt : Nat) : Prop where
  it : RngIt wr b r S l cnt
  g : Gather w wr v l
  nd : l.Nodup
  sub : ∀ x ∈ l, x ∈ S
  nb : ∀ k, v.ownBlock = some k → k ≠ b ∧ k ≠ r
  bn : w.heap.size ≤ b
  rn : w.heap.size ≤ r
  bl : b < wr.heap.size
  rl : r < wr.heap.size
theorem RngL.step {w wr wa wb : World} {b r cnt cnt' g cap : Nat} {S l : List Int} {v : Value} {x : Int} {o : Obj} (h : RngL w wr b r S v l cnt) (hit : RngIt wa b r S (l ++ [x]) cnt') (hx : x ∈ S) (hn : x ∉ l) (hk : Keeps (fun k => k = r) wr wa)
    (hO : Own wb 3 (.slice (some ⟨g, 0, none⟩) (l.length + 1) cap) (l.length + 1) (setf (fun i => .int .i64 (l.getD i 0)) l.length (.int .i64 x)))
    (hK : Keeps (fun k => v.ownBlock = some k) (wa.alloc o) wb) (hg : v.ownBlock = some g ∨ g = (wa.alloc o).heap.size) : RngL w wb b r S (.slice (some ⟨g, 0, none⟩) (l.length + 1) cap) (l ++ [x]) cnt' := by
  have hG : Gather w wa v l := ⟨h.g.ints.keep hk (fun k e e' => (h.nb k e).2 e'), h.g.keeps.trans hk (fun k hk' e => by have := h.rn; omega), h.g.fresh⟩
  have hs := hk.size
  have hs2 : (wa.alloc o).heap.size = wa.heap.size + 1 := by simp
  have hs3 := hK.size
  have hK' : Keeps (fun k => v.ownBlock = some k) wa wb := ((Keeps.refl _ wa).alloc o).trans hK (fun _ _ h => h)
  refine ⟨hit.keep hK' (fun e => (h.nb b e).1 rfl) (fun e => (h.nb r e).2 rfl), hG.snoc hO hK hg, ?_, ?_, fun k hk' => ?_, h.bn, h.rn, by have := h.bl; omega, by have := h.rl; omega⟩
  · rw [List.nodup_append]
    exact ⟨h.nd, by simp, fun a ha b hb e => by simp at hb; subst hb; subst e; exact hn ha⟩
  · intro y hy
    rcases List.mem_append.1 hy with e | e
    · exact h.sub y e
    · simp at e; subst e; exact hx
  · simp [Value.ownBlock] at hk'
    subst hk'
    rcases hg with e | e
    · exact h.nb _ e
    · have := h.bl; have := h.rl; omega

/-- Sorted: the same members, rising. -/
theorem sorted_rising {l : List Int} (hn : l.Nodup) : (l.mergeSort fun x y => decide (x ≤ y)).Pairwise (· < ·) := by
  have h1 : (l.mergeSort fun x y => decide (x ≤ y)).Pairwise (fun x y => decide (x ≤ y) = true) := List.pairwise_mergeSort (fun a b c h1 h2 => by simp at *; omega) (fun a b => by simp; omega) l
  have h2 : (l.mergeSort fun x y => decide (x ≤ y)).Nodup := (List.mergeSort_perm l _).nodup_iff.2 hn
  rw [List.nodup_iff_pairwise_ne] at h2
  exact (h1.and h2).imp fun {a b} h => by
    have := of_decide_eq_true h.1
    have := h.2
    omega

theorem Ints.sorted {w : World} {a : Option Addr} {cap : Nat} {l : List Int} (h : Ints w (.slice a l.length cap) l) (hn : l.length ≤ 1000000000) :
    Calls Try.prog 34 #[.slice a l.length cap] w fun e w' => e = .returned (.tuple #[]) ∧ Ints w' (.slice a l.length cap) (l.mergeSort fun x y => decide (x ≤ y)) ∧ Keeps (fun k => (Value.slice a l.length cap).ownBlock = some k) w w' := by
  rcases h with ⟨e, h0⟩ | ⟨g, cap', cur, e, hg, h1, h2, h3, h4⟩
  · have hl : l = [] := List.eq_nil_of_length_eq_zero h0
    subst hl
    refine (Try.slices_Sort_int_none a cap w).mono ?_
    rintro e' w' ⟨he, rfl⟩
    exact ⟨he, .inl ⟨e, by simp⟩, Keeps.refl _ _⟩
  · injection e with e1 e2 e3
    subst e1
    subst e3
    have hH : Go.Sort.Holds (Value.int .i64) w g 0 l.toArray := by
      intro j hj
      have hj' : j < l.length := by simpa using hj
      refine ⟨?_, by simp [World.frozen?, hg]⟩
      have h5 := h4 j hj'
      simp only [World.cell?, hg, Nat.zero_add]
      simp only [Option.isSome_none, Bool.false_eq_true, if_false]
      rw [h5]
      simp [List.getD_eq_getElem?_getD, List.getElem?_eq_getElem hj']
    refine (Try.slices_Sort_int g 0 cap l w hH (heap_lt hg) (by omega)).mono ?_
    rintro e' w' ⟨he, q, os, rfl⟩
    have hl : (l.mergeSort fun x y => decide (x ≤ y)).length = l.length := List.length_mergeSort l
    have hgr := Go.grownBy_sortedI (w := w) (g := g) (n := q) (os := os) (l.mergeSort fun x y => decide (x ≤ y)).toArray
    have hrow := Go.ownsRow_sortedI (base := 0) (n := q) (os := os) (ss := l) (ts := l.mergeSort fun x y => decide (x ≤ y)) hl (Nat.zero_le _) hg h1 h2 (by omega)
    refine ⟨he, ?_, ⟨hgr.os, hgr.tape, hgr.output, hgr.size, fun k hk hn => hgr.block k hk (fun e => hn (by simp at e; simp [Value.ownBlock, e]))⟩⟩
    unfold Ints
    rw [hl]
    refine Own.of_owns hrow fun i hi => ?_
    rw [List.getElem?_map, List.getElem?_eq_getElem (by omega)]
    simp [List.getD_eq_getElem?_getD, List.getElem?_eq_getElem (show i < (l.mergeSort fun x y => decide (x ≤ y)).length by omega)]
theorem RngL.made {w wr w' : World} {b r cnt cap : Nat} {S l : List Int} {a : Option Addr} (h : RngL w wr b r S (.slice a l.length cap) l cnt) (h1 : Ints w' (.slice a l.length cap) (l.mergeSort fun x y => decide (x ≤ y))) (h2 : Keeps (fun k => (Value.slice a l.length cap).ownBlock = some k) wr w') :
    Made w w' a (l.mergeSort fun x y => decide (x ≤ y)) := by
  have hl : (l.mergeSort fun x y => decide (x ≤ y)).length = l.length := List.length_mergeSort l
  have hG : Gather w w' (.slice a l.length cap) (l.mergeSort fun x y => decide (x ≤ y)) := ⟨h1, h.g.keeps.trans h2 (fun k hk e => by have := h.g.fresh k e; omega), h.g.fresh⟩
  obtain ⟨a', cap', e, _, _, hm⟩ := hG.made
  injection e with e1 e2 e3
  subst e1
  exact hm

set_option maxRecDepth 100000 in
set_option maxHeartbeats 4000000 in
theorem reached_calls {w : World} {B : HB} {H : HS} (hA : HeapAt w B H) (hW : H.Wf) {x : Value} {roots : List Int} (hS : Src w x roots) (hsp : ∀ ad n c, x = .slice (some ad) n c → ad.spot = none) (hn : roots.length ≤ 10000000)
    (hwf : ∀ y ∈ roots, (Lit.int .i64 y).wf = true) :
    Calls Try.prog 17 #[.pointer (some ⟨B.h, 0, none⟩), x] w fun e w' => ∃ a cap l, e = .returned (.slice a l.length cap) ∧ Hid (Made w w' a l ∧ l.Pairwise (· < ·) ∧ ∀ y, y ∈ l ↔ H.Live roots y) := by
  have HR := Lib.hid (reach_calls hA hW hS hsp hn hwf)
  have hnb := hW.nb
  have HBL := Lib.hid (HS.blocksTo_length H H.n)
  have HMB : Hid (∀ y, H.Live roots y → y ∈ ofNats H.blocks) := fun y hy => by
    have h1 := HS.isRef_pos hW hy.isRef
    exact mem_ofNats.2 ⟨by omega, (hW.mem_blocks _).2 h1.2.2⟩
  obtain ⟨i0, hi, hz0, hz1, hz2⟩ := info_parts Try.info_int
  clear hA hW hS hwf
  go_enter Try.func17, Try.ntmps17
  go_wp2_with fail
  refine HR.out.mono ?_
  rintro e w1 ⟨S, rfl, h1⟩
  have hM1 := h1.out.1
  have hK1 := h1.out.2.1
  have hl1 := hM1.lt
  go_wp2_with (at_range; refine wpList_range_marks rfl _ rfl rfl hM1 ?_; intro w2 hrg hK2 hs2)
  have HL : Hid (RngL w w2 w.heap.size w1.heap.size S (.slice none 0 0) [] (w2.rangeLeft w.heap.size w1.heap.size)) :=
    ⟨hrg, ⟨Ints.nil _, hK1.trans hK2 (fun _ _ h => h), fun g h => by simp [Value.ownBlock] at h⟩, List.nodup_nil, fun x hx => by simp at hx, fun k h => by simp [Value.ownBlock] at h, Nat.le_refl _, hK1.size, by omega, hs2⟩
  have HSL : Hid (∀ l : List Int, l.Nodup → (∀ x ∈ l, x ∈ S) → l.length ≤ 1048576) := by
    intro l hl hs
    have h2 := nodup_length_le (m := ofNats H.blocks) hl (fun x hx => HMB.out x ((h1.out.2.2 x).2 (hs x hx)))
    rw [ofNats_length] at h2
    have := HBL.out
    unfold HS.blocks at h2
    omega
  have HLV : Hid (∀ y, y ∈ S ↔ H.Live roots y) := fun y => (h1.out.2.2 y).symm
  clear hrg hK2 hs2 hM1 hK1 hl1 h1
  generalize w1.heap.size = r at *
  generalize hbw : w.heap.size = b at *
  have HBW := Lib.hid hbw
  clear hbw
  go_frame
  go_loopw [5] (fun v wr => ∃ l cnt, Hid (RngL w wr b r S v l cnt)) (fun _ wr => wr.rangeLeft b r)
  case atStart => exact ⟨_, _, HL⟩
  case round =>
    clear HL
    obtain ⟨l, cnt, hL⟩ := hrel
    have hlen := HSL.out l hL.out.nd hL.out.sub
    have HCN : Hid (wr.rangeLeft b r = cnt) := hL.out.it.left_eq
    have HIT := Lib.hid hL.out.it
    have HI := Lib.hid hL.out.g.ints
    go_wp2_with (at_next; refine wpList_next_marks rfl _ rfl rfl HIT.out ?_ ?_)
    · intro hdone
      have HDONE := Lib.hid hdone
      obtain ⟨a1, c1, hv, -, -, -⟩ := hL.out.g.made
      have hv' : u5 = .slice a1 l.length c1 := hv
      subst hv'
      have HSRT := Lib.hid (Ints.sorted HI.out (by omega))
      clear hdone HCN HIT HR hv
      go_wp2_with fail
      refine HSRT.out.mono ?_
      rintro e w3 ⟨rfl, hI3, hK3⟩
      have HM := Lib.hid (hL.out.made hI3 hK3)
      clear hI3 hK3
      go_wp2
      go_ret
      have hl : (l.mergeSort fun x y => decide (x ≤ y)).length = l.length := List.length_mergeSort l
      refine ⟨a1, c1, l.mergeSort fun x y => decide (x ≤ y), by rw [hl]; rfl, HM.out, sorted_rising hL.out.nd, fun y => ?_⟩
      rw [← HLV.out y, (List.mergeSort_perm l _).mem_iff]
      exact ⟨hL.out.sub y, HDONE.out y⟩
    · intro x2 w3 cnt2 hx2 hn2 hc2 hit2 hk2 hen
      have HI2 : Hid (Ints w3 u5 l) := HI.out.keep hk2 (fun k e e' => (hL.out.nb k e).2 e')
      have HX2 := Lib.hid hx2
      have HN2 := Lib.hid hn2
      have HIT2 := Lib.hid hit2
      have HK2 := Lib.hid hk2
      clear hx2 hn2 hit2 hk2 HIT
      go_wp2_with (at_builtin; refine wpList_app1 _ rfl _ _ 29 rfl 3 i0 (.int .i64 0) 8 Try.underlying_ints hi hz0 hz1 hz2 rfl (by decide) u5 l.length _ rfl (HI2.out.alloc _) _ 1 (.int .i64 x2) rfl (World.cell?_alloc_new _ _ _ 0) rfl (by omega) ?_; intro gA cA w4 hO hK hg)
      have HST := Lib.hid (hL.out.step HIT2.out HX2.out HN2.out HK2.out hO hK hg)
      have HC4 : Hid (w4.rangeLeft b r = cnt2) := HST.out.it.left_eq
      clear hO hK hg
      go_wp2
      go_roundw
      case rel => exact ⟨_, _, HST⟩
      case measure => rw [HC4.out, HCN.out]; exact hc2
end Go.Proofs.Ytnflgjhgegggcaa
