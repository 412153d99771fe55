/-
  SweepFinds: the lists, and the plain part.
-/
import Derived.Test.YtnflgjhgegggcaaRc7
import Derived.Test.YtnflgjhgegggcaaFreesP
namespace Go.Proofs.Ytnflgjhgegggcaa
open Go.RowKit

namespace Finds
/-- The i-th block of the list that made leaves; its children, as the document has them. -/
theorem entry_at {w0 w : World} {B : HB} {rb m : Nat} {R : Nat → RawE} {al : Option Addr} {cl : Nat} {E : Nat → LB} {H : HS} (hM : M2 w0 w B rb R m m (.slice al m cl) E H) (hF : Few R m) (wx : World) (hk : Keeps (fun _ => False) w wx) (i : Nat) (hi : i < m) :
    ∃ b g, al = some ⟨b, 0, none⟩ ∧ wx.cell? ⟨b, i * 5, none⟩ = some (.int .i64 (mkA R i : Nat)) ∧ wx.cell? ⟨b, i * 5 + 1, none⟩ = some (.int .i64 (mkK R i)) ∧ wx.cell? ⟨b, i * 5 + 2, none⟩ = some (.int .i64 (mkS R i)) ∧ wx.cell? ⟨b, i * 5 + 3, none⟩ = some (.int .i64 (R i).ms) ∧ wx.cell? ⟨b, i * 5 + 4, none⟩ = some (.slice (some ⟨g, 0, none⟩) (mkr R m i - 1) (mkr R m i - 1)) ∧
      (∀ t, t < mkr R m i - 1 → wx.cell? ⟨g, t, none⟩ = some (.int .i64 (mkw R m i t))) ∧ (¬ B.fp b ∧ ¬ B.fp g) ∧
      Hid (∀ wy, Keeps (fun _ => False) w wy → Calls Try.prog 15 #[.pointer (some ⟨rb, 0, none⟩), .agg #[.int .i64 (mkA R i : Nat), .int .i64 (mkK R i), .int .i64 (mkS R i), .int .i64 (R i).ms, .slice (some ⟨g, 0, none⟩) (mkr R m i - 1) (mkr R m i - 1)]] wy fun e w' => ∃ a c, e = .returned (.slice a (H.kids (mkA R i)).length c) ∧ Hid (Made wy w' a (H.kids (mkA R i)))) := by
  obtain ⟨-, g, he⟩ := hM.done i hi
  have hrow : w.ownsRow w0.heap.size 37 5 (.slice al m cl) (LE E m).length (lball (LE E m)) := by rw [LE_length]; exact hM.env.row
  have hrow' := ownsRow_keeps hrow hk (fun _ _ h => h)
  obtain ⟨b, e, -, -, -, c0, c1, c2, c3, c4, -⟩ := lrow_at hrow' (i := i) (by rw [LE_length]; exact hi)
  rw [LE_at E hi, he.e] at c0 c1 c2 c3 c4
  refine ⟨b, g, e, c0, c1, c2, c3, c4, fun t ht => hk.cell0 (he.row.cell ht), ⟨lrow_fp hM.env.heap hM.env.row b (by rw [e]; rfl), he.nf⟩, fun wy hky => ?_⟩
  have h2 := (mkr_ge hF hi).2.2.1
  refine (children7_calls (hM.env.ref.keep0 hky) (mkH_all hF m (Nat.le_refl _)).1 (mkA R i : Nat) (mkK R i) (mkS R i) (R i).ms g (mkr R m i - 1) (mkr R m i - 1) (mkw R m i) (Arg.keep (.inr ⟨g, 0, rfl, fun t ht => by rw [Nat.zero_add]; exact he.row.cell ht⟩) hky) (by omega) (fun k hk => Rc7.ms_fits R i k hk)).mono ?_
  rintro e w' ⟨v, rfl, hG⟩
  obtain ⟨a, c, rfl, hmade⟩ := hG.out.made'
  rw [Rc7.kidsD_kids hM hF hi] at hmade
  rw [Rc7.kidsD_kids hM hF hi]
  exact ⟨a, c, rfl, hmade⟩
/-- .. behind a collection, too. -/
theorem entry_after {w0 w : World} {B : HB} {rb m : Nat} {R : Nat → RawE} {al : Option Addr} {cl : Nat} {E : Nat → LB} {H : HS} (hM : M2 w0 w B rb R m m (.slice al m cl) E H) (hF : Few R m) (wx : World) (hk : Keeps (fun _ => False) w wx) (wy : World) (hy : Keeps B.wr wx wy) (i : Nat) (hi : i < m) :
    ∃ b g, al = some ⟨b, 0, none⟩ ∧ wy.cell? ⟨b, i * 5, none⟩ = some (.int .i64 (mkA R i : Nat)) ∧ wy.cell? ⟨b, i * 5 + 1, none⟩ = some (.int .i64 (mkK R i)) ∧ wy.cell? ⟨b, i * 5 + 2, none⟩ = some (.int .i64 (mkS R i)) ∧ wy.cell? ⟨b, i * 5 + 3, none⟩ = some (.int .i64 (R i).ms) ∧ wy.cell? ⟨b, i * 5 + 4, none⟩ = some (.slice (some ⟨g, 0, none⟩) (mkr R m i - 1) (mkr R m i - 1)) ∧
      (∀ t, t < mkr R m i - 1 → wy.cell? ⟨g, t, none⟩ = some (.int .i64 (mkw R m i t))) := by
  obtain ⟨b, g, e, c0, c1, c2, c3, c4, cw, ⟨n1, n2⟩, -⟩ := entry_at hM hF wx hk i hi
  have m1 : ¬ B.wr b := fun h => n1 (.inr h)
  have m2 : ¬ B.wr g := fun h => n2 (.inr h)
  exact ⟨b, g, e, hy.cell c0 m1, hy.cell c1 m1, hy.cell c2 m1, hy.cell c3 m1, hy.cell c4 m1, fun t ht => hy.cell (cw t ht) m2⟩
theorem kids_short {w0 w : World} {B : HB} {rb m : Nat} {R : Nat → RawE} {v : Value} {E : Nat → LB} {H : HS} (hM : M2 w0 w B rb R m m v E H) (hF : Few R m) {i : Nat} (hi : i < m) : (H.kids (mkA R i)).length ≤ 1048576 := by
  rw [← Rc7.kidsD_kids hM hF hi]
  have h1 := kidsD_length (mkH R m) (mkK R i) (mkS R i) (R i).ms (mkw R m i) (mkr R m i - 1)
  have h2 := (mkr_ge hF hi).2.2.1
  omega

theorem m2_keep {w0 wr w' : World} {B : HB} {rb m i : Nat} {R : Nat → RawE} {v : Value} {E : Nat → LB} {H : HS} (h : M2 w0 wr B rb R m i v E H) (hk : Keeps (fun _ => False) wr w') : M2 w0 w' B rb R m i v E H :=
  ⟨h.env.keep0 hk, h.ea, fun j hj => by
    obtain ⟨h1, g, he⟩ := h.done j hj
    exact ⟨h1, g, he.e, he.row.keep hk (fun h => h), he.nf⟩, h.todo, h.zero⟩
/-- The blocks that are reached, in their order. -/
noncomputable def lv (H : HS) (F : List Int) (a : Nat) : Bool := by
  classical
  exact decide (H.Live F ((a : Nat) : Int))
theorem lv_iff {H : HS} {F : List Int} {a : Nat} : lv H F a = true ↔ H.Live F ((a : Nat) : Int) := by
  classical
  unfold lv
  simp
noncomputable def wl (H : HS) (F : List Int) (L : List Nat) : List Int := (L.filter (lv H F)).map fun a : Nat => (a : Int)
theorem wl_snoc_yes {H : HS} {F : List Int} {L : List Nat} {a : Nat} (h : H.Live F ((a : Nat) : Int)) : wl H F (L ++ [a]) = wl H F L ++ [((a : Nat) : Int)] := by
  unfold wl
  rw [List.filter_append, List.map_append]
  simp [lv_iff.2 h]
theorem wl_snoc_no {H : HS} {F : List Int} {L : List Nat} {a : Nat} (h : ¬ H.Live F ((a : Nat) : Int)) : wl H F (L ++ [a]) = wl H F L := by
  unfold wl
  rw [List.filter_append, List.map_append]
  have : lv H F a = false := by cases e : lv H F a with
    | false => rfl
    | true => exact absurd (lv_iff.1 e) h
  simp [this]
theorem wl_rising {H : HS} {F : List Int} {L : List Nat} (h : L.Pairwise (· < ·)) : (wl H F L).Pairwise (· < ·) := by
  unfold wl
  rw [List.pairwise_map]
  exact (h.filter _).imp fun h => by omega
theorem mem_wl {H : HS} {F : List Int} {L : List Nat} {y : Int} : y ∈ wl H F L ↔ ∃ a : Nat, a ∈ L ∧ H.Live F ((a : Nat) : Int) ∧ y = ((a : Nat) : Int) := by
  unfold wl
  rw [List.mem_map]
  constructor
  · rintro ⟨a, ha, rfl⟩
    rw [List.mem_filter] at ha
    exact ⟨a, ha.1, lv_iff.1 ha.2, rfl⟩
  · rintro ⟨a, h1, h2, rfl⟩
    exact ⟨a, List.mem_filter.2 ⟨h1, lv_iff.2 h2⟩, rfl⟩
/-- All of them, if every block is gone through. -/
theorem mem_wl_all {H : HS} (hW : H.Wf) {F : List Int} {y : Int} : y ∈ wl H F H.blocks ↔ H.Live F y := by
  rw [mem_wl]
  constructor
  · rintro ⟨a, _, h, rfl⟩; exact h
  · intro h
    have h1 := HS.isRef_pos hW h.isRef
    have e : ((y.toNat : Nat) : Int) = y := by omega
    exact ⟨y.toNat, (hW.mem_blocks _).2 h1.2.2, by rw [e]; exact h, e.symm⟩
/-- What a collection leaves. -/
theorem swept_blocks {H H' : HS} {F : List Int} {c : Nat} (hW : H.Wf) (hs : H.Swept H' F c) : ofNats H'.blocks = wl H F H.blocks ∧ c + (wl H F H.blocks).length = H.blocks.length := by
  have e : ofNats H'.blocks = wl H F H.blocks := by
    apply rising_eqI
    · unfold ofNats
      rw [List.pairwise_map]
      exact H'.blocks_sorted.imp fun h => by omega
    · exact wl_rising H.blocks_sorted
    · intro x
      rw [mem_ofNats, mem_wl_all hW]
      constructor
      · rintro ⟨h0, h1⟩
        have h2 := (hs.wf.mem_blocks _).1 h1
        apply Classical.byContradiction
        intro hno
        exact h2 (hs.gone _ (by rw [show ((x.toNat : Nat) : Int) = x by omega]; exact hno))
      · intro h
        have h1 := HS.isRef_pos hW h.isRef
        refine ⟨by omega, (hs.wf.mem_blocks _).2 ?_⟩
        have e : ((x.toNat : Nat) : Int) = x := by omega
        rw [hs.kept x.toNat (by rw [e]; exact h)]
        exact h1.2.2
  refine ⟨e, ?_⟩
  have := hs.count
  rw [← e]
  simpa [ofNats] using this
/-- The same is reached behind a collection. -/
theorem swept_live {H H' : HS} {F : List Int} {c : Nat} (hW : H.Wf) (hs : H.Swept H' F c) : ∀ y, H'.Live F y ↔ H.Live F y := by
  have hr : ∀ y, H'.isRef y = true → H.isRef y = true := by
    intro y hy
    have h1 := HS.isRef_pos hs.wf hy
    have e : ((y.toNat : Nat) : Int) = y := by omega
    have hl : H.Live F (y.toNat : Nat) := Classical.byContradiction fun hno => h1.2.2 (hs.gone _ hno)
    rw [e] at hl
    exact hl.isRef
  have hr2 : ∀ y, H.Live F y → H'.isRef y = true := by
    intro y hy
    have h1 := HS.isRef_pos hW hy.isRef
    have e : ((y.toNat : Nat) : Int) = y := by omega
    unfold HS.isRef
    rw [← e, HS.roomI_nat, hs.kept _ (by rw [e]; exact hy)]
    exact decide_eq_true h1.2.2
  have hroom : ∀ y : Int, H.Live F y → H'.room y.toNat = H.room y.toNat := by
    intro y hy
    have h1 := HS.isRef_pos hW hy.isRef
    exact hs.kept _ (by rw [show ((y.toNat : Nat) : Int) = y by omega]; exact hy)
  have hto : ∀ (x : Int) kd ms k y, H.Live F x → y ∈ H.kids x.toNat → y ∈ H.kidsTo x.toNat kd ms k → y ∈ H'.kidsTo x.toNat kd ms k := by
    intro x kd ms k y hx hyk
    induction k with
    | zero => intro h; simp [HS.kidsTo] at h
    | succ k ih =>
      intro h
      rw [HS.kidsTo, List.mem_append] at h ⊢
      rcases h with h | h
      · exact .inl (ih h)
      · right
        rw [hs.words]
        split at h
        · rename_i hc
          simp at h
          subst h
          rw [if_pos ⟨hc.1, hr2 _ (.step hx hyk)⟩]
          simp
        · simp at h
  have hto2 : ∀ (x : Nat) kd ms k y, y ∈ H'.kidsTo x kd ms k → y ∈ H.kidsTo x kd ms k := by
    intro x kd ms k y
    induction k with
    | zero => intro h; simp [HS.kidsTo] at h
    | succ k ih =>
      intro h
      rw [HS.kidsTo, List.mem_append] at h ⊢
      rcases h with h | h
      · exact .inl (ih h)
      · right
        rw [hs.words] at h
        split at h
        · rename_i hc
          simp at h
          subst h
          rw [if_pos ⟨hc.1, hr _ hc.2⟩]
          simp
        · simp at h
  intro y
  constructor
  · intro h
    induction h with
    | root hx h => exact .root hx (hr _ h)
    | @step x y hx hy ih =>
      refine .step ih ?_
      unfold HS.kids at hy ⊢
      rw [hs.words, hroom x ih] at hy
      split at hy
      · rename_i hc
        rw [if_pos hc]
        exact hto2 _ _ _ _ _ hy
      · simp at hy
  · intro h
    induction h with
    | root hx h => exact .root hx (hr2 _ (.root hx h))
    | @step x y hx hy ih =>
      refine .step ih ?_
      have hy0 := hy
      unfold HS.kids at hy ⊢
      rw [hs.words, hroom x hx]
      split at hy
      · rename_i hc
        rw [if_pos hc]
        exact hto _ _ _ _ _ hx hy0 hy
      · simp at hy
/-- .. so a second one frees nothing. -/
theorem swept_again {H H' H'' : HS} {F : List Int} {c d : Nat} (hW : H.Wf) (hs : H.Swept H' F c) (hs2 : H'.Swept H'' F d) : d = 0 := by
  have h1 := (swept_blocks hs.wf hs2).2
  have h2 : (wl H' F H'.blocks).length = H'.blocks.length := by
    have e := (swept_blocks hW hs).1
    have : wl H' F H'.blocks = ofNats H'.blocks := by
      apply rising_eqI (wl_rising H'.blocks_sorted)
      · unfold ofNats
        rw [List.pairwise_map]
        exact H'.blocks_sorted.imp fun h => by omega
      · intro x
        rw [mem_wl_all hs.wf, swept_live hW hs, e, mem_wl_all hW]
    rw [this]
    simp [ofNats]
  omega
set_option maxRecDepth 100000 in
set_option maxHeartbeats 4000000 in
/-- Where no block is. -/
theorem kids_off {w : World} {B : HB} {H : HS} (hA : HeapAt w B H) (hW : H.Wf) (x : Int) (h : H.roomI x = 0) :
    Calls Try.prog 14 #[.pointer (some ⟨B.h, 0, none⟩), .int .i64 x] w fun e w' => ∃ v, e = .returned v ∧ Hid (Gather w w' v []) := by
  have HLD := Lib.hid (load_no hA hW x 0 (.inr (by rw [h]; simp)))
  have HOP := Lib.hid (fun w => open_no w 0 (by rfl))
  have HR := Lib.hid (fun q => room_calls (hA.drewN q) hW x)
  rw [h] at HR
  clear hA hW h
  go_enter Try.func14, Try.ntmps14
  go_wp2_with fail
  refine HLD.out.mono ?_
  rintro e w1 ⟨h1, q1, rfl⟩
  have h1' := retPair_out h1
  clear h1
  subst h1'
  go_wp2_with fail
  refine (HOP.out _).mono ?_
  rintro e w2 ⟨rfl, rfl⟩
  go_wp2_with fail
  refine (HR.out _).mono ?_
  rintro e w3 ⟨rfl, q3, rfl⟩
  go_wp2
  refine wp_loop_rounds 1 ?_
  rw [rounds_succ]
  go_wp2
  go_ret
  exact ⟨_, rfl, (Gather.start w).drewN _⟩
theorem blocks_with (H : HS) (W : Nat → Int) : (H.with W).blocks = H.blocks := by
  have key : ∀ k, (H.with W).blocksTo k = H.blocksTo k := by
    intro k
    induction k with
    | zero => rfl
    | succ k ih => unfold HS.blocksTo; rw [ih]; rfl
  exact key H.n
/-- The list being made, and a copied block beside it. -/
structure Wt (w8 wr : World) (p2 : Nat) (x : Int) (v : Value) (l : List Int) : Prop where
  g : Gather w8 wr v l
  c0 : wr.cell? ⟨p2, 0, none⟩ = some (.int .i64 x)
  ne : ∀ k, v.ownBlock = some k → k ≠ p2
  lt : p2 < wr.heap.size
theorem Wt.drewN {w8 wr : World} {p2 : Nat} {x : Int} {v : Value} {l : List Int} (h : Wt w8 wr p2 x v l) (q : Nat) : Wt w8 (wr.drewN q) p2 x v l := ⟨h.g.drewN q, h.c0, h.ne, h.lt⟩
theorem Wt.snoc {w8 wa wb : World} {p2 : Nat} {x y : Int} {v : Value} {l : List Int} {g cap : Nat} {o : Obj} (h : Wt w8 wa p2 x v l)
    (hO : Own wb 3 (.slice (some ⟨g, 0, none⟩) (l.length + 1) cap) (l.length + 1) (setf (fun i => .int .i64 (l.getD i 0)) l.length (.int .i64 y)))
    (hK : Keeps (fun b => v.ownBlock = some b) (wa.alloc o) wb) (hg : v.ownBlock = some g ∨ g = (wa.alloc o).heap.size) : Wt w8 wb p2 x (.slice (some ⟨g, 0, none⟩) (l.length + 1) cap) (l ++ [y]) := by
  have hlt := h.lt
  have hs : (wa.alloc o).heap.size = wa.heap.size + 1 := by simp
  refine ⟨h.g.snoc hO hK hg, hK.cell (((Keeps.refl (fun _ => False) wa).alloc o).cell0 h.c0) (fun e => h.ne _ e rfl), fun k hk => ?_, by have := hK.size; omega⟩
  simp [Value.ownBlock] at hk
  subst hk
  rcases hg with e | e
  · exact h.ne _ e
  · omega
theorem take_wl_yes {H : HS} {F : List Int} {L : List Nat} {q x : Nat} (hq : L[q]? = some x) (h : H.Live F ((x : Nat) : Int)) : wl H F (L.take (q + 1)) = wl H F (L.take q) ++ [((x : Nat) : Int)] := by
  rw [List.take_add_one, hq]
  exact wl_snoc_yes h
theorem take_wl_no {H : HS} {F : List Int} {L : List Nat} {q x : Nat} (hq : L[q]? = some x) (h : ¬ H.Live F ((x : Nat) : Int)) : wl H F (L.take (q + 1)) = wl H F (L.take q) := by
  rw [List.take_add_one, hq]
  exact wl_snoc_no h
theorem wl_length {H : HS} {F : List Int} {L : List Nat} : (wl H F L).length ≤ L.length := by
  unfold wl
  rw [List.length_map]
  exact List.length_filter_le _ _
end Finds
end Go.Proofs.Ytnflgjhgegggcaa
