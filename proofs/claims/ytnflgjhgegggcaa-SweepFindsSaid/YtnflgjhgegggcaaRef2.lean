/-
  The document's heap: the walk of add.
-/
import Derived.Test.YtnflgjhgegggcaaRef1
namespace Go.Proofs.Ytnflgjhgegggcaa
open Go.RowKit

theorem info_block : (Try.prog.info? 47).map (fun i => (i.zero, i.size, i.bytes)) = some (some (.agg #[.int .i64 0, .int .i64 0, .slice none 0 0]), 3, 40) := by kernel_rfl
theorem underlying_blocks : Try.prog.underlying 43 = some (.slice 47) := by kernel_rfl
theorem rb_cells (x : RB) : ∀ u ∈ x.cells, u.oneCell' = true := by
  intro u hu
  simp [RB.cells] at hu
  rcases hu with rfl | rfl | rfl <;> rfl
theorem grownBy_keeps {w w' : World} {row : Option Nat} (h : w.grownBy w' row) : Keeps (fun k => row = some k) w w' :=
  ⟨h.os, h.tape, h.output, h.size, fun k hk hn => h.block k hk (fun e => hn e.symm)⟩

section
variable {w : World}
/-- append of one block. -/
theorem wpList_appRB {ops : Array Oper} {rest : List Oper} {o : Oper} {a : Act} {Q : Exit → Act → World → Prop} (hgd : o.guard = none) (s x : Operand)
    (ho : o.op = .call { callee := .builtin .append, args := #[s, x], argTypes := #[ (43 : Nat) , (43 : Nat) ] })
    (base : Nat) (v : Value) (n : Nat) (xs : List Value) (hs : a.eval s = v) (hown : w.ownsRow base 47 3 v n xs) (b c : Nat) (y : RB) (fr : Nat × Nat) (hx : a.eval x = .slice (some ⟨b, 0, none⟩) 1 c)
    (hb : w.heap[b]? = some (.cells #[.int .i64 (y.a : Nat), .int .i64 (y.r : Nat), .slice (some ⟨y.g, 0, none⟩) y.r y.r] 47 fr)) (hn : n ≤ 1000000000) (hbase : base ≤ w.heap.size)
    (h : ∀ g cap w', w'.ownsRow base 47 3 (.slice (some ⟨g, 0, none⟩) (n + 1) cap) (n + 1) (xs ++ y.cells) → Keeps (fun k => v.ownBlock = some k) w w' → wpList Try.prog ops Q rest (a.put o.dst (.slice (some ⟨g, 0, none⟩) (n + 1) cap)) w') : wpList Try.prog ops Q (o :: rest) a w := by
  obtain ⟨i3, hi3, hy0, hy1, hy2⟩ := info_parts info_block
  refine wpList_append_lies w hgd s x 43 ho base 47 i3 _ 3 40 underlying_blocks hi3 hy0 hy1 hy2 (by rfl) (by omega) v n xs hs hown ⟨b, 0, none⟩ 1 c y.cells hx rfl
    (World.news_of_block hb) (rb_cells y) (by omega) (by unfold maxLen; omega) (by omega) hbase _ rfl ?_
  intro g cap w' hO hG _ _
  exact h g cap w' hO (grownBy_keeps hG)
end

theorem take_snoc {L : List RB} {k : Nat} (h : k < L.length) : L.take (k + 1) = L.take k ++ [L.getD k ⟨0, 0, 0⟩] := by
  rw [rb_get h, List.take_succ_eq_append_getElem h]
theorem drop_take_snoc {L : List RB} {j k : Nat} (hj : j ≤ k) (h : k < L.length) : (L.drop j).take (k + 1 - j) = (L.drop j).take (k - j) ++ [L.getD k ⟨0, 0, 0⟩] := by
  have h1 : k - j < (L.drop j).length := by rw [List.length_drop]; omega
  rw [show k + 1 - j = k - j + 1 by omega, List.take_succ_eq_append_getElem h1, rb_get h, List.getElem_drop]
  congr 2
  simp only [show j + (k - j) = k by omega]

/-- What add has built behind k rounds: the new block is not in it .. -/
structure OutN (w wr : World) (L : List RB) (a : Nat) (v : Value) (k : Nat) : Prop where
  keeps : Keeps (fun _ => False) w wr
  row : wr.ownsRow w.heap.size 47 3 v k (rball (L.take k))
  low : ∀ i, i < k → ra L i < a
/-- .. or it is, behind j others. -/
structure OutY (w wr : World) (L : List RB) (a r : Nat) (v : Value) (k j g : Nat) : Prop where
  keeps : Keeps (fun _ => False) w wr
  row : wr.ownsRow w.heap.size 47 3 v (k + 1) (rball (L.take j ++ ⟨a, r, g⟩ :: (L.drop j).take (k - j)))
  le : j ≤ k
  low : ∀ i, i < j → ra L i < a
  high : ∀ i, j ≤ i → i < L.length → a < ra L i
  wds : Row wr g 3 .i64 r (fun _ => 0)
  new : w.heap.size ≤ g

section
variable {w wr wa wb : World} {L : List RB} {a r k j g : Nat} {v v' : Value}
theorem OutN.start (w : World) (L : List RB) (a : Nat) : OutN w w L a (.slice none 0 0) 0 := ⟨Keeps.refl _ _, World.ownsRow_nil _ _ _ _, fun i hi => by omega⟩
theorem OutN.same (h : OutN w wr L a v k) (hk : k < L.length) (hlt : ra L k < a) {o : Obj} (hO : wa.ownsRow w.heap.size 47 3 v' (k + 1) (rball (L.take k) ++ (L.getD k ⟨0, 0, 0⟩).cells)) (hK : Keeps (fun b => v.ownBlock = some b) (wr.alloc o) wa) :
    OutN w wa L a v' (k + 1) := by
  refine ⟨(h.keeps.alloc o).trans hK (fun b hb e => by have := (h.row.lt b e).1; omega), ?_, fun i hi => ?_⟩
  · rw [take_snoc hk, rball_append, rball_one]; exact hO
  · by_cases e : i = k
    · subst e; exact hlt
    · exact h.low i (by omega)
theorem OutY.past (h : OutY w wr L a r v k j g) (hk : k < L.length) (hv : v.ownBlock ≠ some g) {o : Obj} (hO : wa.ownsRow w.heap.size 47 3 v' (k + 1 + 1) (rball (L.take j ++ ⟨a, r, g⟩ :: (L.drop j).take (k - j)) ++ (L.getD k ⟨0, 0, 0⟩).cells)) (hK : Keeps (fun b => v.ownBlock = some b) (wr.alloc o) wa) :
    OutY w wa L a r v' (k + 1) j g := by
  refine ⟨(h.keeps.alloc o).trans hK (fun b hb e => by have := (h.row.lt b e).1; omega), ?_, by have := h.le; omega, h.low, h.high, (h.wds.alloc o).keep hK hv, h.new⟩
  rw [drop_take_snoc h.le hk, ← List.cons_append, ← List.append_assoc, rball_append, rball_one]
  exact hO
/-- A row of blocks and a row of words lie apart. -/
theorem ownsRow_row_ne {w : World} {base n m : Nat} {v : Value} {xs : List Value} {g : Nat} {f : Nat → Int} (h : w.ownsRow base 47 3 v n xs) (hr : Row w g 3 .i64 m f) : v.ownBlock ≠ some g := by
  intro e
  rcases h.2 with ⟨rfl, _⟩ | ⟨g', cap, cur, rfl, _, hg, _⟩
  · simp [Value.ownBlock] at e
  · simp [Value.ownBlock] at e
    subst e
    obtain ⟨c, hc, _⟩ := hr
    rw [hc] at hg
    simp at hg
theorem OutN.put (h : OutN w wr L a v k) {Z : Array Value} (hZ : Z.size = r ∧ ∀ i, i < r → Z[i]? = some (.int .i64 0)) {o : Obj}
    (hO : wa.ownsRow w.heap.size 47 3 v' (k + 1) (rball (L.take k) ++ RB.cells ⟨a, r, wr.heap.size⟩)) (hK : Keeps (fun b => v.ownBlock = some b) ((wr.alloc (.cells Z 3)).alloc o) wa)
    (hhigh : ∀ i, k ≤ i → i < L.length → a < ra L i) : OutY w wa L a r v' k k wr.heap.size := by
  have hs := h.keeps.size
  have hv : ∀ b, v.ownBlock = some b → b < wr.heap.size := fun b e => (h.row.lt b e).2
  refine ⟨((h.keeps.alloc _).alloc o).trans hK (fun b hb e => by have := (h.row.lt b e).1; omega), ?_, Nat.le_refl _, h.low, hhigh, ?_, hs⟩
  · rw [Nat.sub_self, List.take_zero, rball_append, rball_one]; exact hO
  · have h1 : Row (wr.alloc (.cells Z 3)) wr.heap.size 3 .i64 r (fun _ => 0) := ⟨Z, heap_alloc_new wr _, hZ.1, fun i hi => hZ.2 i hi⟩
    exact (h1.alloc o).keep hK (fun e => by have := hv _ e; omega)
end

set_option maxRecDepth 100000 in
set_option maxHeartbeats 4000000 in
theorem radd_calls {w : World} {rb : Nat} {lv : Value} {L : List RB} {H : HS} (h : RefAt w rb lv L H) (hW : H.Wf) (a r : Nat) (hr2 : 2 ≤ r) (hr : r ≤ 1048576) (ha : a ≤ 1048576) (hne : ∀ i, i < L.length → ra L i ≠ a) :
    Calls Try.prog 44 #[.pointer (some ⟨rb, 0, none⟩), .int .i64 a, .int .i64 r] w fun e w' => e = .returned (.int .i64 a) ∧ ∃ wx v j g, Hid (OutY w wx L a r v L.length j g) ∧ w' = wx.setCell ⟨rb, 1, none⟩ v := by
  have hlen := h.len_le hW
  obtain ⟨al, cl, rfl, hcl⟩ := h.slice
  have c1 := h.c1
  have f1 := h.fr 1
  have HA := Lib.hid h
  have HCE : Hid (∀ i, i < L.length → ∃ b, al = some ⟨b, 0, none⟩ ∧ ∀ wx, Keeps (fun _ => False) w wx → wx.cell? ⟨b, i * 3, none⟩ = some (.int .i64 (ra L i : Nat)) ∧ wx.cell? ⟨b, i * 3 + 1, none⟩ = some (.int .i64 (rr L i : Nat)) ∧ wx.cell? ⟨b, i * 3 + 2, none⟩ = some (.slice (some ⟨rg L i, 0, none⟩) (rr L i) (rr L i))) := by
    intro i hi
    obtain ⟨b, e0, -, e1, e2, e3⟩ := h.at_ hi
    exact ⟨b, e0, fun wx hk => ⟨hk.cell0 e1, hk.cell0 e2, hk.cell0 e3⟩⟩
  have HB : Hid (∀ i, i < L.length → ra L i ≤ 1048576 ∧ rr L i ≤ 1048576) := by
    intro i hi
    have h1 := hW.inside (h.room_ne hW hi)
    have hnb := hW.nb
    rw [h.room_at hi]
    exact ⟨by omega, h1.2.2.2.2⟩
  have HRS : Hid (∀ i j, i < j → j < L.length → ra L i < ra L j) := fun i j hi hj => h.rising hi hj
  have HNE := Lib.hid hne
  have HC1 := Lib.hid c1
  have HF1 := Lib.hid (fun wx (hk : Keeps (fun _ => False) w wx) => (show wx.frozen? ⟨rb, 1, none⟩ = false by
    have := hk.at_ h.hd (fun h => h)
    simp [World.frozen?, this]))
  clear h hW hne f1
  obtain ⟨n, HN⟩ : ∃ n, Hid (n = L.length) := ⟨_, rfl⟩
  rw [← HN.out] at HCE HB HNE HRS hlen hcl HC1 c1
  obtain ⟨Z, hZ, mk⟩ := make_ints r hr
  have HZ := Lib.hid hZ
  clear hZ
  have HS0 : Hid (OutN w w L a (.slice none 0 0) 0) := OutN.start w L a
  have hpos : (0 : Int) ≤ (r : Int) := by omega
  go_enter Try.func44, Try.ntmps44
  go_wp2
  clear c1
  go_loopw [7, 8, 9] (fun v D i wr => ∃ k : Nat, k ≤ n ∧ i = .int .i64 k ∧ ((D = .bool false ∧ Hid (OutN w wr L a v k)) ∨ (D = .bool true ∧ ∃ j g, Hid (OutY w wr L a r v k j g)))) (fun _ _ i _ => n - (intOf i).toNat)
  case atStart => exact ⟨0, Nat.zero_le _, rfl, .inl ⟨rfl, HS0⟩⟩
  case round =>
    clear HS0
    obtain ⟨k, hk, rfl, hD⟩ := hrel
    by_cases hlt : k < n
    · have dk : decide (k < n) = true := decide_eq_true hlt
      obtain ⟨b, rfl, hce⟩ := HCE.out k hlt
      have HCK := Lib.hid hce
      obtain ⟨b1, b2⟩ := HB.out k hlt
      have hkl : Hid (k < L.length) := by show _; rw [← HN.out]; exact hlt
      obtain ⟨y, hy⟩ : ∃ y, y = ra L k := ⟨_, rfl⟩
      obtain ⟨z, hz⟩ : ∃ z, z = rr L k := ⟨_, rfl⟩
      obtain ⟨gk, hg⟩ : ∃ g, g = rg L k := ⟨_, rfl⟩
      have HX : Hid (L.getD k ⟨0, 0, 0⟩ = ⟨y, z, gk⟩) := by rw [hy, hz, hg]; rfl
      have HY := Lib.hid hy
      rw [← hy] at b1
      rw [← hz] at b2
      rw [← hy, ← hz, ← hg] at HCK
      clear hy hz hg hce
      rcases hD with ⟨rfl, hS⟩ | ⟨rfl, j, g, hS⟩
      · have c1' := hS.out.keeps.cell0 HC1.out
        have hbs := hS.out.keeps.size
        obtain ⟨e1, e2, e3⟩ := HCK.out wr hS.out.keeps
        by_cases hya : a < y
        · have hhigh : Hid (∀ i, k ≤ i → i < L.length → a < ra L i) := by
            intro i h1 h2
            have := HY.out
            by_cases e : k = i
            · subst e; omega
            · have := HRS.out k i (by omega) (by rw [HN.out]; exact h2); omega
          have t1 : decide ((a : Int) < (y : Int)) = true := decide_eq_true (by omega)
          have t1n : decide (a < y) = true := decide_eq_true hya
          go_wp2_with (at_builtin; first | (refine wpList_appRB rfl _ _ rfl w.heap.size _ k _ rfl ((hS.out.row.alloc _).alloc _) _ 1 ⟨a, r, wr.heap.size⟩ (0, 0) rfl (by simpa using heap_alloc_new (wr.alloc (.cells Z 3)) _) (by omega) (by simp; omega) ?_; intro g1 cap1 w3 hO1 hK1; have HT := Lib.hid (hS.out.put HZ.out hO1 hK1 hhigh.out); clear hO1 hK1; have c3 := HT.out.keeps.cell0 HC1.out; have hcs := HCK.out w3 HT.out.keeps; obtain ⟨n1, n2, n3⟩ := hcs; have hbs3 := HT.out.keeps.size) | (refine wpList_appRB rfl _ _ rfl w.heap.size _ (k + 1) _ rfl (HT.out.row.alloc _) _ 1 ⟨y, z, gk⟩ (0, 0) rfl (heap_alloc_new _ _) (by omega) (by simp; omega) ?_; intro g2 cap2 w4 hO2 hK2))
          rw [← HX.out] at hO2
          have HN2 := Lib.hid (HT.out.past hkl.out (ownsRow_row_ne HT.out.row HT.out.wds) hO2 hK2)
          clear hO2 hK2 HT hS
          go_wp2
          go_roundw
          case rel => exact ⟨k + 1, by omega, by go_num, .inr ⟨rfl, _, _, HN2⟩⟩
          case measure => simp [intOf]; omega
        · have t1 : decide ((a : Int) < (y : Int)) = false := decide_eq_false (by omega)
          have t1n : decide (a < y) = false := decide_eq_false hya
          have HLT : Hid (ra L k < a) := by
            have h1 := HNE.out k hlt
            have h2 := HY.out
            show _ < _
            omega
          go_wp2_with (at_builtin; refine wpList_appRB rfl _ _ rfl w.heap.size _ k _ rfl (hS.out.row.alloc _) _ 1 ⟨y, z, gk⟩ (0, 0) rfl (heap_alloc_new _ _) (by omega) (by simp; omega) ?_; intro g2 cap2 w4 hO2 hK2)
          rw [← HX.out] at hO2
          have HN2 := Lib.hid (hS.out.same hkl.out HLT.out hO2 hK2)
          clear hO2 hK2 hS
          go_wp2
          go_roundw
          case rel => exact ⟨k + 1, by omega, by go_num, .inl ⟨rfl, HN2⟩⟩
          case measure => simp [intOf]; omega
      · have c1' := hS.out.keeps.cell0 HC1.out
        have hbs := hS.out.keeps.size
        obtain ⟨e1, e2, e3⟩ := HCK.out wr hS.out.keeps
        go_wp2_with (at_builtin; refine wpList_appRB rfl _ _ rfl w.heap.size _ (k + 1) _ rfl (hS.out.row.alloc _) _ 1 ⟨y, z, gk⟩ (0, 0) rfl (heap_alloc_new _ _) (by omega) (by simp; omega) ?_; intro g2 cap2 w4 hO2 hK2)
        rw [← HX.out] at hO2
        have HN2 := Lib.hid (hS.out.past hkl.out (ownsRow_row_ne hS.out.row hS.out.wds) hO2 hK2)
        clear hO2 hK2 hS
        go_wp2
        go_roundw
        case rel => exact ⟨k + 1, by omega, by go_num, .inr ⟨rfl, _, _, HN2⟩⟩
        case measure => simp [intOf]; omega
    · obtain rfl : n = k := by omega
      have dk : decide (n < n) = false := by simp
      rcases hD with ⟨rfl, hS⟩ | ⟨rfl, j, g, hS⟩
      · have c1' := hS.out.keeps.cell0 HC1.out
        have hbs := hS.out.keeps.size
        have hhigh : Hid (∀ i, n ≤ i → i < L.length → a < ra L i) := by
          intro i h1 h2
          have := HN.out
          omega
        go_wp2_with (at_builtin; refine wpList_appRB rfl _ _ rfl w.heap.size _ n _ rfl ((hS.out.row.alloc _).alloc _) _ 1 ⟨a, r, wr.heap.size⟩ (0, 0) rfl (by simpa using heap_alloc_new (wr.alloc (.cells Z 3)) _) (by omega) (by simp; omega) ?_; intro g1 cap1 w3 hO1 hK1; have HT := Lib.hid (hS.out.put HZ.out hO1 hK1 hhigh.out); clear hO1 hK1; have c3 := HT.out.keeps.cell0 HC1.out; have f3 := HF1.out w3 HT.out.keeps)
        go_ret
        exact ⟨rfl, w3, _, n, _, by rw [← HN.out]; exact HT, rfl⟩
      · have c1' := hS.out.keeps.cell0 HC1.out
        have f3 := HF1.out wr hS.out.keeps
        obtain ⟨av, cv, rfl, -⟩ := ownsRow_slice hS.out.row
        go_wp2
        go_ret
        exact ⟨rfl, wr, _, j, g, by rw [← HN.out]; exact hS, rfl⟩
end Go.Proofs.Ytnflgjhgegggcaa
