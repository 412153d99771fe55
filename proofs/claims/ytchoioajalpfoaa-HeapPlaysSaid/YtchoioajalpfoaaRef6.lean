/-
  The document's heap: the walk of Free.
-/
import Derived.Test.YtchoioajalpfoaaRef5
namespace Go.Proofs.Ytchoioajalpfoaa
open Go.RowKit

theorem rball_one' {M : List RB} : ∀ u ∈ rball M, u.oneCell' = true := by
  intro u hu
  unfold rball at hu
  obtain ⟨x, _, hx⟩ := List.mem_flatMap.1 hu
  exact rb_cells x u hx
section
variable {w : World}
/-- append of blocks. -/
theorem wpList_appRBs {ops : Array Oper} {rest : List Oper} {o : Oper} {a : Act} {Q : Exit → Act → World → Prop} (hgd : o.guard = none) (s x : Operand)
    (ho : o.op = .call { callee := .builtin .append, args := #[s, x], argTypes := #[ (55 : Nat) , (55 : Nat) ] })
    (base : Nat) (v : Value) (n : Nat) (xs : List Value) (hs : a.eval s = v) (hown : w.ownsRow base 60 3 v n xs) (b off m c : Nat) (M : List RB) (hm : M.length = m) (hx : a.eval x = .slice (some ⟨b, off, none⟩) m c)
    (hnews : ∀ j u, (rball M)[j]? = some u → w.cell? ⟨b, off + j, none⟩ = some u) (hn : n + m ≤ 1000000000) (hbase : base ≤ w.heap.size)
    (h : ∀ v' w', w'.ownsRow base 60 3 v' (n + m) (xs ++ rball M) → Keeps (fun k => v.ownBlock = some k) w w' → wpList Try.prog ops Q rest (a.put o.dst v') w') : wpList Try.prog ops Q (o :: rest) a w := by
  obtain ⟨i3, hi3, hy0, hy1, hy2⟩ := info_parts info_block
  have hadd : ∀ j, (⟨b, off, none⟩ : Addr).add j = ⟨b, off + j, none⟩ := fun j => by unfold Addr.add; split <;> simp_all
  obtain ⟨v', w', hr, h2, h3, _⟩ := run_append_own (P := Try.prog) w base 55 o.type 60 i3 _ 3 40 underlying_blocks hi3 hy0 hy1 hy2 (by rfl) (by omega) v n xs hown ⟨b, off, none⟩ m c (rball M) (by rw [rball_length, hm])
    (fun j u hj => by rw [hadd]; exact hnews j u hj) rball_one' (by unfold maxLen; omega) (by omega) hbase
  refine wpList_plain hgd fun _ hK => ?_
  unfold Oper.wp execOp
  simp only [ho, resolve, invoke, builtin, Sem.run_bind, Sem.run_pure, Result.andThen_ok, List.map_toArray, List.map_cons, List.map_nil, hs, hx, hr]
  exact hK _ _ (h v' w' h2 (grownBy_keeps h3))
end

/-- A block is taken out of the list. -/
theorem RefAt.take {w wx : World} {rb : Nat} {lv v : Value} {L : List RB} {H : HS} {i : Nat} (h : RefAt w rb lv L H) (hW : H.Wf) (hi : i < L.length) (hk : Keeps (fun _ => False) w wx)
    (hrow : wx.ownsRow w.heap.size 60 3 v (i + (L.length - (i + 1))) (rball (L.take i) ++ rball (L.drop (i + 1)))) :
    RefAt (wx.setCell ⟨rb, 1, none⟩ v) rb v (L.take i ++ L.drop (i + 1)) (H.freeAt (ra L i)) ∧ Keeps (fun k => k = rb) w (wx.setCell ⟨rb, 1, none⟩ v) := by
  have hx := h.keep hk (fun _ _ h => h)
  have hK : Keeps (fun k => k = rb) wx (wx.setCell ⟨rb, 1, none⟩ v) := (Keeps.refl (fun k => k = rb) wx).setCell (p := ⟨rb, 1, none⟩) (fun _ => rfl) v
  have hT := hW.free_takes (h.room_ne hW hi)
  have hll : (L.take i ++ L.drop (i + 1)).length = i + (L.length - (i + 1)) := by
    simp
    omega
  have hrb : v.ownBlock ≠ some rb := by
    intro e
    rcases hrow.2 with ⟨rfl, _⟩ | ⟨g', cap, cur, rfl, _, hg, _⟩
    · simp [Value.ownBlock] at e
    · simp [Value.ownBlock] at e
      subst e
      rw [hx.hd] at hg
      simp at hg
  have hsub : ∀ x ∈ L.take i ++ L.drop (i + 1), x ∈ L := by
    intro x hx'
    rcases List.mem_append.1 hx' with e | e
    · exact List.mem_of_mem_take e
    · exact List.mem_of_mem_drop e
  have hats := hT.split hW (i := i) (by rw [← h.len]; exact hi) (by
    rw [← h.ats, List.getElem?_map, List.getElem?_eq_getElem hi]
    unfold ra
    rw [rb_get hi]; rfl)
  rw [← h.ats] at hats
  have hne : ∀ x ∈ L.take i ++ L.drop (i + 1), x.a ≠ ra L i := by
    intro x hx' e
    have : ra L i ∈ (H.freeAt (ra L i)).blocks := by
      rw [hats, ← e, ← List.map_take, ← List.map_drop, ← List.map_append]
      exact List.mem_map.2 ⟨x, hx', rfl⟩
    exact (hT.wf.mem_blocks _).1 this hT.is
  refine ⟨⟨?_, ?_, ?_, ?_, ?_, ?_⟩, (hk.mono (fun _ _ h => h.elim)).trans hK (fun k _ e => e)⟩
  · rw [hT.n]
    have := heap_setCell_same wx rb 1 _ _ v hx.hd
    rw [this]
    rfl
  · rw [hll, rball_append]
    exact ownsRow_low (ownsRow_keeps hrow hK (fun k e1 e2 => hrb (by rw [e1, e2]))) (Nat.zero_le _)
  · intro x hx'
    have e := hsub x hx'
    have hw := (hx.wds x e).keep hK (fun e' => by
      have h1 := hx.wds x e
      obtain ⟨c, hc, _⟩ := h1
      rw [e'] at hc
      rw [hx.hd] at hc
      simp at hc)
    rw [hT.words]
    exact hw
  · rw [hats]; simp
  · intro x hx'
    rw [hT.other _ (hne x hx')]
    exact h.rms x (hsub x hx')
  · have h0 := h.gs
    rw [List.map_append]
    have e0 : L.map RB.g = (L.take i).map RB.g ++ (L.drop i).map RB.g := by rw [← List.map_append, List.take_append_drop]
    rw [e0, List.drop_eq_getElem_cons hi, List.map_cons, List.nodup_append, List.nodup_cons] at h0
    rw [List.nodup_append]
    exact ⟨h0.1, h0.2.1.2, fun x hx' y hy => h0.2.2 x hx' y (List.mem_cons_of_mem _ hy)⟩

section
variable {w0 w : World} {R : Nat → Prop} {rb : Nat} {H H' : HS}
theorem RefA.rfree_no (h : RefA w0 w R rb H) (hW : H.Wf) (x : Int) (hr : H.roomI x = 0) :
    Calls Try.prog 27 #[.pointer (some ⟨rb, 0, none⟩), .int .i64 x] w fun e w' => e = .returned (.bool false) ∧ ∃ q, w' = w.drewN q := by
  have HFD : Hid (Calls Try.prog 28 #[.pointer (some ⟨rb, 0, none⟩), .int .i64 x] w fun e w' => e = .returned (.int .i64 (-1)) ∧ ∃ q, w' = w.drewN q) := by
    refine (h.rfind hW x).mono ?_
    rintro e w' ⟨⟨i, rfl, h1, -⟩, h3⟩
    exact ⟨by rw [h1 hr], h3⟩
  clear h hW hr
  go_enter Try.func27, Try.ntmps27
  go_wp2_with fail
  refine HFD.out.mono ?_
  rintro e w3 ⟨rfl, q3, rfl⟩
  go_wp2
  go_ret
  exact ⟨rfl, q3, rfl⟩

set_option maxRecDepth 100000 in
set_option maxHeartbeats 4000000 in
theorem rfree_at {lv : Value} {L : List RB} (h : RefAt w rb lv L H) (hW : H.Wf) {i : Nat} (hi : i < L.length) :
    Calls Try.prog 27 #[.pointer (some ⟨rb, 0, none⟩), .int .i64 (ra L i : Nat)] w fun e w' => e = .returned (.bool true) ∧ ∃ wx v, w' = wx.setCell ⟨rb, 1, none⟩ v ∧ Hid (Keeps (fun _ => False) w wx ∧
      wx.ownsRow w.heap.size 60 3 v (i + (L.length - (i + 1))) (rball (L.take i) ++ rball (L.drop (i + 1)))) := by
  have hlen := h.len_le hW
  obtain ⟨al, cl, rfl, hcl⟩ := h.slice
  have c1 := h.c1
  have HFD := Lib.hid (rfind_calls h hW (ra L i : Nat))
  rw [h.find_at hi] at HFD
  obtain ⟨b, rfl, -, -⟩ := h.at_ hi
  have HCE : Hid (∀ j u, (rball L)[j]? = some u → w.cell? ⟨b, j, none⟩ = some u) := by
    intro j u hj
    have hjl : j < L.length * 3 := by
      rcases Nat.lt_or_ge j (L.length * 3) with h | h
      · exact h
      · rw [List.getElem?_eq_none (by rw [rball_length]; exact h)] at hj; cases hj
    rw [World.ownsRow.cellAt h.row j hjl]
    exact hj
  have HF1 := Lib.hid (fun wx (hk : Keeps (fun _ => False) w wx) => (show wx.frozen? ⟨rb, 1, none⟩ = false by
    have := hk.at_ h.hd (fun h => h)
    simp [World.frozen?, this]))
  have HL1 : Hid ((L.take i).length = i) := by show _ = _; rw [List.length_take]; omega
  have HL2 : Hid ((L.drop (i + 1)).length = L.length - (i + 1)) := by show _ = _; rw [List.length_drop]
  have HN1 : Hid (∀ wx, Keeps (fun _ => False) w wx → ∀ j u, (rball (L.take i))[j]? = some u → wx.cell? ⟨b, 0 + j, none⟩ = some u) := by
    intro wx hk j u hj
    rw [rball_take, List.getElem?_take] at hj
    split at hj
    · rw [Nat.zero_add]; exact hk.cell0 (HCE.out j u hj)
    · cases hj
  have HN2 : Hid (∀ wx, Keeps (fun _ => False) w wx → ∀ j u, (rball (L.drop (i + 1)))[j]? = some u → wx.cell? ⟨b, (i + 1) * 3 + j, none⟩ = some u) := by
    intro wx hk j u hj
    rw [rball_drop, List.getElem?_drop] at hj
    exact hk.cell0 (HCE.out _ u hj)
  obtain ⟨off2, hof⟩ : ∃ off2, off2 = if cl = i + 1 then 0 else (i + 1) * 3 := ⟨_, rfl⟩
  have HIF : Hid ((if cl = i + 1 then some (⟨b, 0, none⟩ : Addr) else some ⟨b, (i + 1) * 3, none⟩) = some ⟨b, off2, none⟩) := by
    show _ = _
    rw [hof]
    split <;> rfl
  have HN3 : Hid (∀ wx, Keeps (fun _ => False) w wx → ∀ j u, (rball (L.drop (i + 1)))[j]? = some u → wx.cell? ⟨b, off2 + j, none⟩ = some u) := by
    intro wx hk j u hj
    rw [hof]
    split
    · have e : L.drop (i + 1) = [] := List.drop_of_length_le (by omega)
      rw [e] at hj; simp [rball] at hj
    · exact HN2.out wx hk j u hj
  clear HN2 hof
  generalize ra L i = y at *
  clear h hW
  obtain ⟨n, HN⟩ : ∃ n, Hid (n = L.length) := ⟨_, rfl⟩
  rw [← HN.out] at HL2 hlen c1 hcl hi
  rw [← HN.out]
  have HNIL : ∀ q, Hid ((w.drewN q).ownsRow w.heap.size 60 3 (.slice none 0 0) 0 []) := fun q => World.ownsRow_nil _ _ _ _
  go_enter Try.func27, Try.ntmps27
  go_wp2_with fail
  refine HFD.out.mono ?_
  rintro e w3 ⟨rfl, q3, rfl⟩
  have hi1 : (i : Int) ≤ (n : Int) := by omega
  have hi2 : (i : Int) + 1 ≤ (n : Int) := by omega
  have dz : decide ((i : Int) < 0) = false := decide_eq_false (by omega)
  go_wp2_with (at_builtin; (first | ((refine wpList_appRBs rfl _ _ rfl w.heap.size (.slice none 0 0) 0 [] rfl (HNIL q3).out b 0 i _ (L.take i) HL1.out rfl (HN1.out _ ((Keeps.refl _ w).drewN q3)) (by omega) (Nat.le_refl _) ?_; intro v1 w4 hO1 hK1; have HK4 : Hid (Keeps (fun _ => False) w w4) := ((Keeps.refl (fun _ => False) w).drewN q3).trans hK1 (fun k _ e => by simp [Value.ownBlock] at e); have HO1 : Hid (w4.ownsRow w.heap.size 60 3 v1 i (rball (L.take i))) := (by have := hO1; rw [Nat.zero_add, List.nil_append] at this; exact this); clear hO1 hK1; have c4 := HK4.out.cell0 c1)) | ((refine wpList_appRBs rfl _ _ rfl w.heap.size v1 i (rball (L.take i)) rfl HO1.out b off2 (n - (i + 1)) (cl - (i + 1)) (L.drop (i + 1)) HL2.out (by show Value.slice (if cl = i + 1 then _ else _) _ _ = _; rw [HIF.out]) (HN3.out _ HK4.out) (by omega) HK4.out.size ?_; intro v2 w5 hO2 hK2; obtain ⟨a2, cp2, rfl, -⟩ := ownsRow_slice hO2; have HK5 : Hid (Keeps (fun _ => False) w w5) := (HK4.out.trans hK2 (fun k hk e => by have := (HO1.out.lt k e).1; omega)); have f5 := HF1.out w5 HK5.out; have c5 := HK5.out.cell0 c1; have HO2 := Lib.hid hO2; clear hO2 hK2))))
  all_goals go_ret
  all_goals exact ⟨rfl, w5, _, rfl, HK5.out, HO2.out⟩
theorem RefA.rfree_yes (h : RefA w0 w R rb H) (hW : H.Wf) (x : Int) (hr : H.roomI x ≠ 0) :
    Calls Try.prog 27 #[.pointer (some ⟨rb, 0, none⟩), .int .i64 x] w fun e w' => e = .returned (.bool true) ∧ Hid (RefA w0 w' R rb (H.freeAt x.toNat) ∧ Keeps (fun k => k = rb) w w') := by
  obtain ⟨lv, L, h1, h2, h3⟩ := h
  rcases h1.find_room hW x with ⟨e1, -⟩ | ⟨i, hi, rfl, -⟩
  · exact absurd e1 hr
  · refine (rfree_at h1 hW hi).mono ?_
    rintro e w' ⟨he, wx, v, rfl, h4⟩
    have hk := h1.take hW hi h4.out.1 h4.out.2
    rw [Int.toNat_natCast]
    refine ⟨he, ⟨v, _, hk.1, fun k hf => ?_, fun k hr => ?_⟩, hk.2⟩
    · have hs : w0.heap.size ≤ w.heap.size := by
        have := (h2 rb (.inl rfl)).1
        have := h1.lt rb (.inl rfl)
        omega
      rcases hf with e | e | ⟨x, hx, e⟩
      · exact h2 k (.inl e)
      · have := (h4.out.2.lt k e).1
        exact ⟨by omega, fun hr => by have := h3 k hr; omega⟩
      · refine h2 k (.inr (.inr ⟨x, ?_, e⟩))
        rcases List.mem_append.1 hx with e | e
        · exact List.mem_of_mem_take e
        · exact List.mem_of_mem_drop e
    · exact Nat.lt_of_lt_of_le (h3 k hr) hk.2.size
end
end Go.Proofs.Ytchoioajalpfoaa
