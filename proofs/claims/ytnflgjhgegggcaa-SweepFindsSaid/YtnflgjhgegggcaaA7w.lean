/-
  The anchor of layer 7: the walk.
-/
import Derived.Test.YtnflgjhgegggcaaA7
namespace Go.Proofs.Ytnflgjhgegggcaa
open Go.RowKit

theorem Gather.made' {w wr : World} {v : Value} {l : List Int} (h : Gather w wr v l) : ∃ a cap, v = .slice a l.length cap ∧ Hid (Made w wr a l) := by
  obtain ⟨a, cap, e, -, -, h⟩ := h.made
  exact ⟨a, cap, e, h⟩

theorem anc7_raw (w : World) : RawArg ((((w.alloc (.cells #[.int .i64 (-2), .int .i64 7] 3)).alloc (.cells #[.int .i64 (-1)] 3)).alloc (.cells #[.int .i64 (-3)] 3)).alloc (.cells #[.int .i64 2, .int .i64 2, .int .i64 0, .slice (some ⟨w.heap.size, 0, none⟩) 2 2, .int .i64 1, .int .i64 1, .int .i64 0, .slice (some ⟨w.heap.size + 1, 0, none⟩) 1 1, .int .i64 2, .int .i64 1, .int .i64 0, .slice (some ⟨w.heap.size + 1 + 1, 0, none⟩) 1 1] 61)) (some ⟨w.heap.size + 1 + 1 + 1, 0, none⟩) 3 (Anc7.raw w.heap.size (w.heap.size + 1) (w.heap.size + 1 + 1)) := by
  have h4 := fun (cs : Array Value) (T : TypeId) (j : Nat) => World.cell?_alloc_new (((w.alloc (.cells #[.int .i64 (-2), .int .i64 7] 3)).alloc (.cells #[.int .i64 (-1)] 3)).alloc (.cells #[.int .i64 (-3)] 3)) cs T j
  rw [show (((w.alloc (.cells #[.int .i64 (-2), .int .i64 7] 3)).alloc (.cells #[.int .i64 (-1)] 3)).alloc (.cells #[.int .i64 (-3)] 3)).heap.size = w.heap.size + 1 + 1 + 1 by simp] at h4
  have k3 := fun (o : Obj) => (Keeps.refl (fun _ => False) (((w.alloc (.cells #[.int .i64 (-2), .int .i64 7] 3)).alloc (.cells #[.int .i64 (-1)] 3)).alloc (.cells #[.int .i64 (-3)] 3))).alloc o
  have h3 := World.cell?_alloc_new ((w.alloc (.cells #[.int .i64 (-2), .int .i64 7] 3)).alloc (.cells #[.int .i64 (-1)] 3)) #[.int .i64 (-3)] 3 0
  rw [show ((w.alloc (.cells #[.int .i64 (-2), .int .i64 7] 3)).alloc (.cells #[.int .i64 (-1)] 3)).heap.size = w.heap.size + 1 + 1 by simp] at h3
  have k2 := (Keeps.refl (fun _ => False) ((w.alloc (.cells #[.int .i64 (-2), .int .i64 7] 3)).alloc (.cells #[.int .i64 (-1)] 3))).alloc (.cells #[.int .i64 (-3)] 3)
  have h2 := World.cell?_alloc_new (w.alloc (.cells #[.int .i64 (-2), .int .i64 7] 3)) #[.int .i64 (-1)] 3 0
  rw [show (w.alloc (.cells #[.int .i64 (-2), .int .i64 7] 3)).heap.size = w.heap.size + 1 by simp] at h2
  have k1 := (Keeps.refl (fun _ => False) (w.alloc (.cells #[.int .i64 (-2), .int .i64 7] 3))).alloc (.cells #[.int .i64 (-1)] 3)
  have h1 := fun j => World.cell?_alloc_new w #[.int .i64 (-2), .int .i64 7] 3 j
  refine .inr ⟨_, 0, rfl, fun i hi => ?_⟩
  match i with
  | 0 =>
    refine ⟨h4 _ _ 0, h4 _ _ 1, h4 _ _ 2, h4 _ _ 3, .inr ⟨_, 0, rfl, fun t ht => ?_⟩, fun t ht => ?_⟩
    · have ht' : t < 2 := ht
      match t with
      | 0 => exact (k3 _).cell0 (k2.cell0 (k1.cell0 (h1 0)))
      | 1 => exact (k3 _).cell0 (k2.cell0 (k1.cell0 (h1 1)))
      | t + 2 => omega
    · show -9223372036854775808 ≤ (if t = 0 then (-2 : Int) else 7)
      split <;> omega
  | 1 =>
    refine ⟨h4 _ _ 4, h4 _ _ 5, h4 _ _ 6, h4 _ _ 7, .inr ⟨_, 0, rfl, fun t ht => ?_⟩, fun t ht => ?_⟩
    · have ht' : t < 1 := ht
      match t with
      | 0 => exact (k3 _).cell0 (k2.cell0 h2)
      | t + 1 => omega
    · show -9223372036854775808 ≤ (-1 : Int)
      omega
  | 2 =>
    refine ⟨h4 _ _ 8, h4 _ _ 9, h4 _ _ 10, h4 _ _ 11, .inr ⟨_, 0, rfl, fun t ht => ?_⟩, fun t ht => ?_⟩
    · have ht' : t < 1 := ht
      match t with
      | 0 => exact (k3 _).cell0 h3
      | t + 1 => omega
    · show -9223372036854775808 ≤ (-3 : Int)
      omega
  | i + 3 => omega

set_option maxRecDepth 100000 in
set_option maxHeartbeats 8000000 in
theorem anchor7_calls (w : World) : Calls Try.prog 8 #[] w fun e w' => e = .returned (.bool true) ∧ Keeps (fun _ => False) w w' := by
  have HK4 : Hid (Keeps (fun _ => False) w ((((w.alloc (.cells #[.int .i64 (-2), .int .i64 7] 3)).alloc (.cells #[.int .i64 (-1)] 3)).alloc (.cells #[.int .i64 (-3)] 3)).alloc (.cells #[.int .i64 2, .int .i64 2, .int .i64 0, .slice (some ⟨w.heap.size, 0, none⟩) 2 2, .int .i64 1, .int .i64 1, .int .i64 0, .slice (some ⟨w.heap.size + 1, 0, none⟩) 1 1, .int .i64 2, .int .i64 1, .int .i64 0, .slice (some ⟨w.heap.size + 1 + 1, 0, none⟩) 1 1] 61))) := (((((Keeps.refl _ w).alloc _).alloc _).alloc _).alloc _)
  have HMD := Lib.hid (made_calls _ _ 3 3 _ (anc7_raw w) (Anc7.few _ _ _))
  go_enter Try.func8, Try.ntmps8
  go_wp2_with fail
  refine HMD.out.mono ?_
  generalize ((((w.alloc (.cells #[.int .i64 (-2), .int .i64 7] 3)).alloc (.cells #[.int .i64 (-1)] 3)).alloc (.cells #[.int .i64 (-3)] 3)).alloc (.cells #[.int .i64 2, .int .i64 2, .int .i64 0, .slice (some ⟨w.heap.size, 0, none⟩) 2 2, .int .i64 1, .int .i64 1, .int .i64 0, .slice (some ⟨w.heap.size + 1, 0, none⟩) 1 1, .int .i64 2, .int .i64 1, .int .i64 0, .slice (some ⟨w.heap.size + 1 + 1, 0, none⟩) 1 1] 61)) = w4 at *
  rintro e w5 ⟨B, rb, v, E, H, rfl, hM⟩
  have hlv := anc7_live hM.out
  have hwf := hM.out.env.wf (Anc7.few _ _ _)
  obtain ⟨al, cl, rfl, -⟩ := ownsRow_slice hM.out.env.row
  have hrow : w5.ownsRow w4.heap.size 37 5 (.slice al 3 cl) (LE E 3).length (lball (LE E 3)) := by rw [LE_length]; exact hM.out.env.row
  obtain ⟨b, rfl, -, -, -, c0, -⟩ := lrow_at hrow (i := 0) (by rw [LE_length]; omega)
  obtain ⟨b', e', -, -, -, c5, -⟩ := lrow_at hrow (i := 1) (by rw [LE_length]; omega)
  cases e'
  rw [LE_at E (by omega), hM.out.ea 0 (by omega), Anc7.a0] at c0
  rw [LE_at E (by omega), hM.out.ea 1 (by omega), Anc7.a1] at c5
  have hbf := lrow_fp hM.out.env.heap hM.out.env.row b rfl
  have HHP := Lib.hid hM.out.env.heap
  have HWF := Lib.hid hwf
  have HLV := Lib.hid hlv
  have HK5 : Hid (Keeps (fun _ => False) w w5) := HK4.out.trans hM.out.env.keeps (fun _ _ h => h)
  have HNW := Lib.hid hM.out.env.new
  have C0 : Hid (∀ wx, Keeps (fun _ => False) w5 wx → wx.cell? ⟨b, 0, none⟩ = some (.int .i64 64) ∧ wx.cell? ⟨b, 5, none⟩ = some (.int .i64 128)) := fun wx hk => ⟨hk.cell0 c0, hk.cell0 c5⟩
  clear hM hlv hwf hrow c0 c5 HMD
  go_wp2_with fail
  have hS0 : w5.drew.cell? ⟨b, 0, none⟩ = some (.int .i64 64) ∧ w5.drew.cell? ⟨b, 5, none⟩ = some (.int .i64 128) := C0.out _ (Keeps.refl _ w5).drew
  have HSA : Hid (∀ (wx : World) (o : Obj), (wx.cell? ⟨b, 0, none⟩ = some (.int .i64 64) ∧ wx.cell? ⟨b, 5, none⟩ = some (.int .i64 128)) → (wx.alloc o).cell? ⟨b, 0, none⟩ = some (.int .i64 64) ∧ (wx.alloc o).cell? ⟨b, 5, none⟩ = some (.int .i64 128)) := fun wx o h => ⟨((Keeps.refl (fun _ => False) wx).alloc o).cell0 h.1, ((Keeps.refl (fun _ => False) wx).alloc o).cell0 h.2⟩
  have HP0 : Hid (Keeps (fun _ => False) w5 w5.drew) := (Keeps.refl _ w5).drew
  have HPA : Hid (∀ (wx : World) (o : Obj), Hid (Keeps (fun _ => False) w5 wx) → Hid (Keeps (fun _ => False) w5 (wx.alloc o))) := fun wx o h => h.out.alloc o
  have HRE : Hid (∀ wx g, Hid (Keeps (fun _ => False) w5 wx) → wx.cell? ⟨g, 0, none⟩ = some (.int .i64 64) → Calls Try.prog 17 #[.pointer (some ⟨B.h, 0, none⟩), .slice (some ⟨g, 0, none⟩) 1 1] wx fun e w' => ∃ a1 c1, e = .returned (.slice a1 2 c1) ∧ (w'.cell? ⟨b, 0, none⟩ = some (.int .i64 64) ∧ w'.cell? ⟨b, 5, none⟩ = some (.int .i64 128)) ∧ Hid (Keeps (fun _ => False) w5 w') ∧ Hid (Arg w' a1 2 (fun i => .int .i64 (([64, 128] : List Int).getD i 0))) ∧ Hid (Keeps (fun _ => False) wx w')) := by
    intro wx g hk hc
    have hsrc : Src wx (.slice (some ⟨g, 0, none⟩) 1 1) [64] := .inr ⟨⟨g, 0, none⟩, 1, rfl, fun j u hj => by
      match j with
      | 0 => simp at hj; subst hj; simpa [Addr.add] using hc
      | j + 1 => simp at hj⟩
    refine (reached_calls (HHP.out.keep hk.out (fun _ _ h => h)) HWF.out hsrc (fun ad n c h => by cases h; rfl) (by simp) (fun y hy => by simp at hy; subst hy; exact wf_small (by omega) (by omega))).mono ?_
    rintro e w' ⟨a1, c1, l, rfl, hm⟩
    have hl : l = [64, 128] := rising_eqI hm.out.2.1 (by simp) (fun x => by rw [hm.out.2.2 x, HLV.out.1 x])
    subst hl
    have hk' := hk.out.trans hm.out.1.keeps (fun _ _ h => h)
    exact ⟨a1, c1, rfl, C0.out _ hk', hk', hm.out.1.arg, hm.out.1.keeps⟩
  have HIN : Hid (∀ wx a1 c1 g, Hid (Keeps (fun _ => False) w5 wx) → Hid (Arg wx a1 2 (fun i => .int .i64 (([64, 128] : List Int).getD i 0))) → wx.cell? ⟨g, 0, none⟩ = some (.int .i64 64) → wx.cell? ⟨g, 1, none⟩ = some (.int .i64 128) → Calls Try.prog 13 #[.slice a1 2 c1, .slice (some ⟨g, 0, none⟩) 2 2] wx fun e w' => e = .returned (.bool true) ∧ (w'.cell? ⟨b, 0, none⟩ = some (.int .i64 64) ∧ w'.cell? ⟨b, 5, none⟩ = some (.int .i64 128)) ∧ Hid (Keeps (fun _ => False) w5 w') ∧ Hid (Keeps (fun _ => False) wx w')) := by
    intro wx a1 c1 g hk ha h0 h1
    refine (ints7_yes wx a1 (some ⟨g, 0, none⟩) c1 2 [64, 128] ha.out (.inr ⟨g, 0, rfl, fun i hi => ?_⟩) (by simp)).mono ?_
    · have hi' : i < 2 := hi
      match i with
      | 0 => exact h0
      | 1 => exact h1
      | i + 2 => omega
    · rintro e w' ⟨he, rfl⟩
      exact ⟨he, C0.out _ hk.out, hk, Keeps.refl _ _⟩
  have HCO : Hid (∀ wx g, Hid (Keeps (fun _ => False) w5 wx) → wx.cell? ⟨g, 0, none⟩ = some (.int .i64 64) → Calls Try.prog 18 #[.pointer (some ⟨B.h, 0, none⟩), .slice (some ⟨g, 0, none⟩) 1 1] wx fun e w' => e = .returned (.int .i64 1) ∧ (w'.cell? ⟨b, 0, none⟩ = some (.int .i64 64) ∧ w'.cell? ⟨b, 5, none⟩ = some (.int .i64 128)) ∧ Hid (Keeps (fun _ => False) w w')) := by
    intro wx g hk hc
    have hsrc : Src wx (.slice (some ⟨g, 0, none⟩) 1 1) [64] := .inr ⟨⟨g, 0, none⟩, 1, rfl, fun j u hj => by
      match j with
      | 0 => simp at hj; subst hj; simpa [Addr.add] using hc
      | j + 1 => simp at hj⟩
    refine (collect_calls (HHP.out.keep hk.out (fun _ _ h => h)) HWF.out hsrc (fun ad n c h => by cases h; rfl) (by simp) (fun y hy => by simp at hy; subst hy; exact wf_small (by omega) (by omega))).mono ?_
    rintro e w' ⟨c, rfl, H', hp⟩
    obtain ⟨hA', hsw, hK'⟩ := hp.out
    have hcnt := hsw.wf.count (l := [64, 128]) (by simp) (fun a => by
      have hl := HLV.out.1 (a : Int)
      constructor
      · intro ha
        have hlive : H.Live [64] (a : Int) := hl.2 (by simp at ha ⊢; omega)
        rw [hsw.kept a hlive]
        have := hlive.isRef
        unfold HS.isRef at this
        rw [HS.roomI_nat] at this
        exact of_decide_eq_true this
      · intro ha
        apply Classical.byContradiction
        intro hno
        refine ha (hsw.gone a fun hlive => hno ?_)
        have := hl.1 hlive
        simp at this ⊢
        omega)
    have h1 := hsw.count
    rw [HLV.out.2, hcnt] at h1
    have hc1 : c = 1 := by simp at h1; omega
    subst hc1
    have c0 := C0.out _ hk.out
    refine ⟨rfl, ⟨hK'.cell c0.1 (fun h => hbf (.inr h)), hK'.cell c0.2 (fun h => hbf (.inr h))⟩, (HK5.out.trans hk.out (fun _ _ h => h)).trans hK' (fun k hkk hw => ?_)⟩
    have := HNW.out k (.inr hw)
    have := HK4.out.size
    omega
  clear C0 HHP HWF HLV HK4
  go_region_held3 (fun w' => w'.cell? ⟨b, 0, none⟩ = some (.int .i64 64) ∧ w'.cell? ⟨b, 5, none⟩ = some (.int .i64 128))
    (first | exact hS0 | assumption | exact HSA.out _ _ (by assumption))
    (first | (go_at_call 17; refine (HRE.out _ _ (by first | assumption | exact HPA.out _ _ (by assumption) | exact HPA.out _ _ (HPA.out _ _ (by assumption))) (by first | exact World.cell?_alloc_new _ _ _ 0 | (simp; done) | exact ((Keeps.refl (fun _ => False) _).alloc _).cell0 (World.cell?_alloc_new _ _ _ 0))).mono ?_; rintro e w' ⟨a1, c1, rfl, hs, hp1, hm1, hkr⟩) | (go_at_call 13; refine (HIN.out _ _ _ _ (by first | assumption | exact HPA.out _ _ (by assumption) | exact HPA.out _ _ (HPA.out _ _ (by assumption))) (by first | assumption | exact Arg.keep (Hid.out (by assumption)) ((Keeps.refl (fun _ => False) _).alloc _)) (by first | exact World.cell?_alloc_new _ _ _ 0 | exact hkr.out.cell0 (by first | exact World.cell?_alloc_new _ _ _ 0 | (simp; done) | exact ((Keeps.refl (fun _ => False) _).alloc _).cell0 (World.cell?_alloc_new _ _ _ 0))) (by first | exact World.cell?_alloc_new _ _ _ 1 | exact hkr.out.cell0 (by first | exact World.cell?_alloc_new _ _ _ 1 | (simp; done) | exact ((Keeps.refl (fun _ => False) _).alloc _).cell0 (World.cell?_alloc_new _ _ _ 1)))).mono ?_; rintro e w' ⟨rfl, hs, hp1, hkr2⟩) | (go_at_call 18; refine (HCO.out _ _ (by first | assumption | exact HPA.out _ _ (by assumption) | exact HPA.out _ _ (HPA.out _ _ (by assumption))) (by first | exact World.cell?_alloc_new _ _ _ 0 | (simp; done))).mono ?_; rintro e w' ⟨rfl, hs, hfin⟩))
  all_goals go_wp2
  all_goals go_ret
  all_goals exact ⟨rfl, Hid.out (by assumption)⟩
end Go.Proofs.Ytnflgjhgegggcaa
