/-
  The document's heap as a call keeps it: New, Spans, row, Alloc.
-/
import Derived.Test.YtnflgjhgegggcaaRef2
import Derived.Test.YtnflgjhgegggcaaW6
namespace Go.Proofs.Ytnflgjhgegggcaa
open Go.RowKit

/-- The document's heap H that a call made (w0: its world at the beginning); R: blocks of memory that aren't its. -/
def RefA (w0 w : World) (R : Nat → Prop) (rb : Nat) (H : HS) : Prop :=
  ∃ lv L, RefAt w rb lv L H ∧ (∀ k, RFp rb lv L k → w0.heap.size ≤ k ∧ ¬ R k) ∧ (∀ k, R k → k < w.heap.size)

namespace RefA
variable {w0 w w' : World} {R R' F : Nat → Prop} {rb : Nat} {H H' : HS}
theorem keep (h : RefA w0 w R rb H) (hk : Keeps F w w') (hF : ∀ k, F k → k < w.heap.size → R k) : RefA w0 w' R rb H := by
  obtain ⟨lv, L, h1, h2, h3⟩ := h
  exact ⟨lv, L, h1.keep hk fun k hf hF' => (h2 k hf).2 (hF k hF' (h1.lt k hf)), h2, fun k hk' => Nat.lt_of_lt_of_le (h3 k hk') hk.size⟩
theorem keep0 (h : RefA w0 w R rb H) (hk : Keeps (fun _ => False) w w') : RefA w0 w' R rb H := h.keep hk fun _ h => h.elim
theorem drewN (h : RefA w0 w R rb H) (q : Nat) : RefA w0 (w.drewN q) R rb H := h.keep0 ((Keeps.refl _ w).drewN q)
theorem drew (h : RefA w0 w R rb H) : RefA w0 w.drew R rb H := h.keep0 (Keeps.refl _ w).drew
theorem alloc (h : RefA w0 w R rb H) (o : Obj) : RefA w0 (w.alloc o) R rb H := h.keep0 ((Keeps.refl _ w).alloc o)
/-- New blocks are none of it. -/
theorem more (h : RefA w0 w R rb H) (hk : Keeps F w w') (hF : ∀ k, F k → k < w.heap.size → R k) (hR : ∀ k, R' k → (R k ∨ w.heap.size ≤ k) ∧ k < w'.heap.size) : RefA w0 w' R' rb H := by
  obtain ⟨lv, L, h1, h2, h3⟩ := h
  refine ⟨lv, L, h1.keep hk fun k hf hF' => (h2 k hf).2 (hF k hF' (h1.lt k hf)), fun k hf => ⟨(h2 k hf).1, fun hr => ?_⟩, fun k hr => (hR k hr).2⟩
  rcases (hR k hr).1 with e | e
  · exact (h2 k hf).2 e
  · have := h1.lt k hf; omega
theorem sub (h : RefA w0 w R rb H) (hR : ∀ k, R' k → R k) : RefA w0 w R' rb H := by
  obtain ⟨lv, L, h1, h2, h3⟩ := h
  exact ⟨lv, L, h1, fun k hf => ⟨(h2 k hf).1, fun hr => (h2 k hf).2 (hR k hr)⟩, fun k hr => h3 k (hR k hr)⟩
theorem rb_new (h : RefA w0 w R rb H) : w0.heap.size ≤ rb ∧ ¬ R rb ∧ rb < w.heap.size := by
  obtain ⟨lv, L, h1, h2, h3⟩ := h
  exact ⟨(h2 rb (.inl rfl)).1, (h2 rb (.inl rfl)).2, h1.lt rb (.inl rfl)⟩
theorem c0 (h : RefA w0 w R rb H) : w.cell? ⟨rb, 0, none⟩ = some (.int .i64 (H.n : Nat)) := by
  obtain ⟨lv, L, h1, -⟩ := h
  exact h1.c0
theorem lt (h : RefA w0 w R rb H) {k : Nat} (hR : R k) : k < w.heap.size := by
  obtain ⟨lv, L, -, -, h3⟩ := h
  exact h3 k hR
end RefA

theorem ownsRow_low {w : World} {base base' size n : Nat} {T : TypeId} {v : Value} {xs : List Value} (h : w.ownsRow base T size v n xs) (hb : base' ≤ base) : w.ownsRow base' T size v n xs := by
  refine ⟨h.1, ?_⟩
  rcases h.2 with e | ⟨g, cap, cur, rfl, h1, rest⟩
  · exact .inl e
  · exact .inr ⟨g, cap, cur, rfl, by omega, rest⟩
/-- A block is put into the list. -/
theorem RefAt.add {w wx : World} {rb : Nat} {lv v : Value} {L : List RB} {H H' : HS} {a r j g : Nat} (h : RefAt w rb lv L H) (hW : H.Wf) (hAd : HS.Adds H H' a r) (hY : OutY w wx L a r v L.length j g) :
    RefAt (wx.setCell ⟨rb, 1, none⟩ v) rb v (L.take j ++ ⟨a, r, g⟩ :: L.drop j) H' ∧ Keeps (fun k => k = rb) w (wx.setCell ⟨rb, 1, none⟩ v) := by
  have hx := h.keep hY.keeps (fun _ _ h => h)
  have hK : Keeps (fun k => k = rb) wx (wx.setCell ⟨rb, 1, none⟩ v) := (Keeps.refl (fun k => k = rb) wx).setCell (p := ⟨rb, 1, none⟩) (fun _ => rfl) v
  have hrow := hY.row
  have hdl : (L.drop j).take (L.length - j) = L.drop j := List.take_of_length_le (by rw [List.length_drop]; omega)
  have hll : (L.take j ++ (⟨a, r, g⟩ : RB) :: L.drop j).length = L.length + 1 := by
    have := hY.le
    simp
    omega
  rw [hdl] at hrow
  have hrb : v.ownBlock ≠ some rb := by
    intro e
    rcases hrow.2 with ⟨rfl, _⟩ | ⟨g', cap, cur, rfl, _, hg, _⟩
    · simp [Value.ownBlock] at e
    · simp [Value.ownBlock] at e
      subst e
      rw [hx.hd] at hg
      simp at hg
  have hlt : ∀ k, RFp rb lv L k → k < w.heap.size := h.lt
  have hrbl := hlt rb (.inl rfl)
  have hL : ∀ i, L[i]? = some (L.getD i ⟨0, 0, 0⟩) ∨ L.length ≤ i := by
    intro i
    by_cases hi : i < L.length
    · left; rw [rb_get hi]; exact List.getElem?_eq_getElem hi
    · right; omega
  refine ⟨⟨?_, ?_, ?_, ?_, ?_, ?_⟩, (hY.keeps.mono (fun _ _ h => h.elim)).trans hK (fun k _ e => e)⟩
  · rw [hAd.n]
    have := heap_setCell_same wx rb 1 _ _ v hx.hd
    rw [this]
    rfl
  · rw [hll]
    exact ownsRow_low (ownsRow_keeps hrow hK (fun k e1 e2 => hrb (by rw [e1, e2]))) (Nat.zero_le _)
  · intro x hx'
    have : x ∈ L ∨ x = ⟨a, r, g⟩ := by
      rcases List.mem_append.1 hx' with e | e
      · exact .inl (List.mem_of_mem_take e)
      · rcases List.mem_cons.1 e with e | e
        · exact .inr e
        · exact .inl (List.mem_of_mem_drop e)
    rcases this with e | e
    · have hw := (hx.wds x e).keep hK (fun e' => by
        have h1 := hx.wds x e
        obtain ⟨c, hc, _⟩ := h1
        rw [e'] at hc
        rw [hx.hd] at hc
        simp at hc)
      refine hw.congr fun k hk => ?_
      have hne : H.room x.a ≠ 0 := (hW.mem_blocks _).1 (by rw [← h.ats]; exact List.mem_map.2 ⟨x, e, rfl⟩)
      have hna : x.a ≠ a := fun e' => hne (by rw [e']; exact hAd.was)
      have hr' : H'.room x.a = H.room x.a := hAd.other _ hna
      have := hAd.wf.apart (a := x.a) (b := a) (by rw [hr']; exact hne) (by rw [hAd.is]; exact hAd.pos) hna
      rw [hr', hAd.is, ← h.rms x e] at this
      rw [hAd.words, setr_out _ _ (by omega)]
    · subst e
      have hg : g ≠ rb := fun e => by have := hY.new; omega
      change Row _ g _ _ r (fun k => H'.words (a + k))
      refine (hY.wds.keep hK hg).congr fun k hk => ?_
      rw [hAd.words, setr_in _ _ (by omega) (by omega)]
  · have := hAd.split hW (j := j) (by rw [← h.len]; exact hY.le) (fun x hx' => ?_) (fun x hx' => ?_)
    · rw [this, ← h.ats]; simp
    · rw [← h.ats, ← List.map_take] at hx'
      obtain ⟨y, hy, rfl⟩ := List.mem_map.1 hx'
      obtain ⟨i, hi, rfl⟩ := List.getElem_of_mem hy
      rw [List.length_take] at hi
      have := hY.low i (by omega)
      unfold ra at this
      rw [rb_get (by omega)] at this
      simpa using this
    · rw [← h.ats, ← List.map_drop] at hx'
      obtain ⟨y, hy, rfl⟩ := List.mem_map.1 hx'
      obtain ⟨i, hi, rfl⟩ := List.getElem_of_mem hy
      rw [List.length_drop] at hi
      have := hY.high (j + i) (by omega) (by omega)
      unfold ra at this
      rw [rb_get (by omega)] at this
      simpa using this
  · intro x hx'
    have : x ∈ L ∨ x = ⟨a, r, g⟩ := by
      rcases List.mem_append.1 hx' with e | e
      · exact .inl (List.mem_of_mem_take e)
      · rcases List.mem_cons.1 e with e | e
        · exact .inr e
        · exact .inl (List.mem_of_mem_drop e)
    rcases this with e | e
    · have hne : H.room x.a ≠ 0 := (hW.mem_blocks _).1 (by rw [← h.ats]; exact List.mem_map.2 ⟨x, e, rfl⟩)
      rw [h.rms x e, hAd.other _ (fun e' => hne (by rw [e']; exact hAd.was))]
    · subst e; exact hAd.is.symm
  · have h0 := h.gs
    have hgl : ∀ x ∈ L, x.g ≠ g := fun x hx' e => by
      have := hlt x.g (.inr (.inr ⟨x, hx', rfl⟩))
      have := hY.new
      omega
    rw [List.map_append, List.map_cons]
    have hp : (L.map RB.g).Perm (L.map RB.g) := List.Perm.refl _
    rw [List.nodup_append, List.nodup_cons]
    have e0 : L.map RB.g = (L.take j).map RB.g ++ (L.drop j).map RB.g := by rw [← List.map_append, List.take_append_drop]
    rw [e0, List.nodup_append] at h0
    refine ⟨h0.1, ⟨fun hm => ?_, h0.2.1⟩, fun x hx' y hy e => ?_⟩
    · obtain ⟨z, hz, ez⟩ := List.mem_map.1 hm
      exact hgl z (List.mem_of_mem_drop hz) ez
    · rcases List.mem_cons.1 hy with e' | e'
      · obtain ⟨z, hz, ez⟩ := List.mem_map.1 hx'
        exact hgl z (List.mem_of_mem_take hz) (by rw [ez, e, e'])
      · exact h0.2.2 x hx' y e' e
theorem RefA.radd {w0 w : World} {R : Nat → Prop} {rb : Nat} {H H' : HS} {a r : Nat} (h : RefA w0 w R rb H) (hW : H.Wf) (hAd : HS.Adds H H' a r) :
    Calls Try.prog 44 #[.pointer (some ⟨rb, 0, none⟩), .int .i64 a, .int .i64 r] w fun e w' => e = .returned (.int .i64 a) ∧ Hid (RefA w0 w' R rb H' ∧ Keeps (fun k => k = rb) w w') := by
  obtain ⟨lv, L, h1, h2, h3⟩ := h
  have hin := hAd.wf.inside (a := a) (by rw [hAd.is]; exact hAd.pos)
  have hnb := hAd.wf.nb
  rw [hAd.is] at hin
  refine (radd_calls h1 hW a r hin.2.2.1 hin.2.2.2.2 (by omega) (fun i hi e => ?_)).mono ?_
  · have := h1.room_ne hW hi
    rw [e] at this
    exact this hAd.was
  · rintro e w' ⟨he, wx, v, j, g, hY, rfl⟩
    have hk := h1.add hW hAd hY.out
    refine ⟨he, ⟨v, _, hk.1, fun k hf => ?_, fun k hr => ?_⟩, hk.2⟩
    · have hs : w0.heap.size ≤ w.heap.size := by
        have := (h2 rb (.inl rfl)).1
        have := h1.lt rb (.inl rfl)
        omega
      have new : ∀ k, w.heap.size ≤ k → w0.heap.size ≤ k ∧ ¬ R k := fun k hk => ⟨by omega, fun hr => by have := h3 k hr; omega⟩
      rcases hf with e | e | ⟨x, hx, e⟩
      · exact h2 k (.inl e)
      · exact new k (hY.out.row.lt k e).1
      · have : x ∈ L ∨ x = ⟨a, r, g⟩ := by
          rcases List.mem_append.1 hx with e | e
          · exact .inl (List.mem_of_mem_take e)
          · rcases List.mem_cons.1 e with e | e
            · exact .inr e
            · exact .inl (List.mem_of_mem_drop e)
        rcases this with e' | e'
        · exact h2 k (.inr (.inr ⟨x, e', e⟩))
        · subst e'; subst e; exact new _ hY.out.new
    · exact Nat.lt_of_lt_of_le (h3 k hr) hk.2.size
theorem RefA.rclass {w0 w : World} {R : Nat → Prop} {rb : Nat} {H : HS} (h : RefA w0 w R rb H) (hW : H.Wf) (s : Nat) (hs1 : 1 ≤ s) (hs : s < H.n) :
    Calls Try.prog 42 #[.pointer (some ⟨rb, 0, none⟩), .int .i64 s] w fun e w' => e = .returned (.int .i64 (H.rcls s)) ∧ Keeps (fun _ => False) w w' := by
  obtain ⟨lv, L, h1, -⟩ := h
  exact rclass_calls h1 hW s hs1 hs
/-- Find, for its sign. -/
theorem RefA.rfind {w0 w : World} {R : Nat → Prop} {rb : Nat} {H : HS} (h : RefA w0 w R rb H) (hW : H.Wf) (x : Int) :
    Calls Try.prog 43 #[.pointer (some ⟨rb, 0, none⟩), .int .i64 x] w fun e w' => (∃ i : Int, e = .returned (.int .i64 i) ∧ (H.roomI x = 0 → i = -1) ∧ (H.roomI x ≠ 0 → 0 ≤ i ∧ i ≤ 1048576)) ∧ ∃ q, w' = w.drewN q := by
  obtain ⟨lv, L, h1, -⟩ := h
  have hl := h1.len_le hW
  refine (rfind_calls h1 hW x).mono ?_
  rintro e w' ⟨rfl, hq⟩
  refine ⟨⟨_, rfl, ?_⟩, hq⟩
  rcases h1.find_room hW x with ⟨e1, e2⟩ | ⟨i, hi, rfl, e2, e3, e4⟩
  · rw [e1, e2]; exact ⟨fun _ => rfl, fun h => absurd rfl h⟩
  · rw [e2, e3]; exact ⟨fun h => absurd h e4, fun _ => ⟨by omega, by omega⟩⟩
end Go.Proofs.Ytnflgjhgegggcaa
