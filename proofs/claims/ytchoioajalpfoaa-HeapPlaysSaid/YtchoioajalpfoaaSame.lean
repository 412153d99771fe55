/-
  derricklaw06: the walk of same.
-/
import Derived.Test.YtchoioajalpfoaaRef6
import Derived.Test.YtchoioajalpfoaaInts6
namespace Go.Proofs.Ytchoioajalpfoaa
open Go.RowKit

theorem quiet_of {P : Program} {f : FuncId} {args : Array Value} {W : World} {v : Value} (h : ∀ q, Calls P f args (W.drewN q) fun e w' => e = .returned v ∧ ∃ q', w' = (W.drewN q).drewN q') (q : Nat) :
    Calls P f args (W.drewN q) fun e w'' => e = .returned v ∧ ∃ m, w'' = W.drewN m := (h q).mono fun _ _ ⟨he, m, hm⟩ => ⟨he, q + m, by rw [hm]; simp [World.drewN, Nat.add_assoc]⟩
theorem Gather.alloc {w wr : World} {v : Value} {l : List Int} (h : Gather w wr v l) (o : Obj) : Gather w (wr.alloc o) v l := ⟨h.ints.alloc o, h.keeps.alloc o, h.fresh⟩
theorem Gather.keep {w wr wx : World} {v : Value} {l : List Int} (h : Gather w wr v l) (hk : Keeps (fun _ => False) wr wx) : Gather w wx v l := ⟨h.ints.keep hk (fun _ _ h => h), h.keeps.trans hk (fun _ _ h => h), h.fresh⟩
theorem Gather.lt {w wr : World} {v : Value} {l : List Int} (h : Gather w wr v l) : ∀ k, v.ownBlock = some k → k < wr.heap.size := fun k hk => Own.lt h.ints k hk

set_option maxRecDepth 100000 in
set_option maxHeartbeats 8000000 in
theorem same_calls {w0 w : World} {B : HB} {R : Nat → Prop} {rb : Nat} {H : HS} (hA : HeapAt w B H) (hR : RefA w0 w R rb H) (hW : H.Wf) :
    Calls Try.prog 19 #[.pointer (some ⟨B.h, 0, none⟩), .pointer (some ⟨rb, 0, none⟩)] w fun e w' => e = .returned (.bool true) ∧ Keeps (fun _ => False) w w' := by
  have HR := Lib.hid hR
  obtain ⟨lv, L, h, -⟩ := hR
  have hlen := h.len_le hW
  obtain ⟨al, cl, rfl, hcl⟩ := h.slice
  have c1 := h.c1
  obtain ⟨i0, hi, hz0, hz1, hz2⟩ := info_parts Try.info_int
  have HC1 := Lib.hid c1
  have HHP : Hid (∀ wx, Keeps (fun _ => False) w wx → HeapAt wx B H) := fun wx hk => hA.keep hk (fun _ _ h => h)
  have HWF := Lib.hid hW
  have HCE : Hid (∀ i, i < L.length → ∃ b, al = some ⟨b, 0, none⟩ ∧ ∀ wx, Keeps (fun _ => False) w wx → wx.cell? ⟨b, i * 3, none⟩ = some (.int .i64 (ra L i : Nat)) ∧ wx.cell? ⟨b, i * 3 + 1, none⟩ = some (.int .i64 (rr L i : Nat)) ∧ wx.cell? ⟨b, i * 3 + 2, none⟩ = some (.slice (some ⟨rg L i, 0, none⟩) (rr L i) (rr L i))) := by
    intro i hi
    obtain ⟨b, e0, -, e1, e2, e3⟩ := h.at_ hi
    exact ⟨b, e0, fun wx hk => ⟨hk.cell0 e1, hk.cell0 e2, hk.cell0 e3⟩⟩
  have HWD : Hid (∀ i, i < L.length → ∀ wx, Keeps (fun _ => False) w wx → ∀ u, u < rr L i → wx.cell? ⟨rg L i, u, none⟩ = some (.int .i64 (H.words (ra L i + u)))) := fun i hi wx hk u hu => hk.cell0 ((h.wds_at hi).cell hu)
  have HB : Hid (∀ i, i < L.length → ra L i ≤ 1048576 ∧ rr L i ≤ 1048576 ∧ H.room (ra L i) = rr L i) := by
    intro i hi
    have h1 := hW.inside (h.room_ne hW hi)
    have hnb := hW.nb
    rw [h.room_at hi]
    exact ⟨by omega, h1.2.2.2.2, rfl⟩
  have HTK : Hid (∀ i, i < L.length → ofNats (H.blocks.take (i + 1)) = ofNats (H.blocks.take i) ++ [(ra L i : Int)]) := by
    intro i hi
    rw [← h.ats, List.take_succ_eq_append_getElem (by simpa using hi), ofNats_append]
    unfold ra
    rw [rb_get hi]
    simp [ofNats]
  have HAL : Hid (ofNats (H.blocks.take L.length) = ofNats H.blocks) := by
    show _ = _
    rw [h.len, List.take_length]
  have HLN : Hid (∀ k, k ≤ L.length → (ofNats (H.blocks.take k)).length = k) := by
    intro k hk
    rw [ofNats_length, List.length_take, ← h.len]
    omega
  have HG0 : Hid (Gather w w (.slice none 0 0) (ofNats (H.blocks.take 0))) := Gather.start w
  clear h hA hW
  obtain ⟨n, HN⟩ : ∃ n, Hid (n = L.length) := ⟨_, rfl⟩
  rw [← HN.out] at HCE HWD HB HTK HAL HLN hlen hcl HC1 c1
  go_enter Try.func19, Try.ntmps19
  go_wp2
  go_loopw [5, 19] (fun v i wr => ∃ k : Nat, k ≤ n ∧ i = .int .i64 k ∧ Hid (Gather w wr v (ofNats (H.blocks.take k)))) (fun _ i _ => n - (intOf i).toNat)
  case atStart => exact ⟨0, Nat.zero_le _, rfl, HG0⟩
  case round =>
    clear HG0
    obtain ⟨k, hk, rfl, hG⟩ := hrel
    by_cases hlt : k < n
    · have dk : decide (k < n) = true := decide_eq_true hlt
      obtain ⟨b, rfl, hce⟩ := HCE.out k hlt
      obtain ⟨e1, e2, e3⟩ := hce wr hG.out.keeps
      have HB3 := HB.out k hlt
      have HW3 := Lib.hid (HWD.out k hlt)
      have hll := HLN.out k hk
      obtain ⟨b1, b2, b3⟩ := HB3
      have HSN := Lib.hid (HTK.out k hlt)
      have HRM : Hid (H.roomI ((ra L k : Nat) : Int) = rr L k) := by show _ = _; rw [HS.roomI_nat, b3]
      clear b3 hce
      generalize ofNats (H.blocks.take k) = l at *
      generalize ra L k = y at *
      generalize rr L k = z at *
      generalize rg L k = g at *
      have HLK := Lib.hid hll
      have HI : Hid (Own wr 3 u5 k (fun i => .int .i64 (l.getD i 0))) := by
        have := hG.out.ints
        unfold Ints at this
        rw [hll] at this
        exact this
      have hk20 : k ≤ 1048576 := by omega
      clear hll
      go_wp2_with (at_builtin; refine wpList_app1 _ rfl _ _ 22 rfl 3 i0 (.int .i64 0) 8 Try.underlying_ints hi hz0 hz1 hz2 rfl (by decide) u5 k _ rfl ((HI.out.alloc _).alloc _) _ 1 (.int .i64 (y : Nat)) rfl (by simp) rfl (by omega) ?_; intro gA cA w3 hO hK hg)
      rw [← HLK.out] at hO
      have HG3 := Lib.hid ((hG.out.alloc _).snoc hO hK hg)
      rw [← HSN.out, HLK.out] at HG3
      have hF : ¬ u5.ownBlock = some wr.heap.size := fun e => by have := hG.out.lt _ e; omega
      have k0 : w3.cell? ⟨wr.heap.size, 0, none⟩ = some (.int .i64 (y : Nat)) := hK.cell (((Keeps.refl (fun _ => False) (wr.alloc (.cells #[.int .i64 y, .int .i64 z, .slice (some ⟨g, 0, none⟩) z z] 60))).alloc _).cell0 (World.cell?_alloc_new wr _ _ 0)) hF
      have k1 : w3.cell? ⟨wr.heap.size, 1, none⟩ = some (.int .i64 (z : Nat)) := hK.cell (((Keeps.refl (fun _ => False) (wr.alloc (.cells #[.int .i64 y, .int .i64 z, .slice (some ⟨g, 0, none⟩) z z] 60))).alloc _).cell0 (World.cell?_alloc_new wr _ _ 1)) hF
      have k2 : w3.cell? ⟨wr.heap.size, 2, none⟩ = some (.slice (some ⟨g, 0, none⟩) z z) := hK.cell (((Keeps.refl (fun _ => False) (wr.alloc (.cells #[.int .i64 y, .int .i64 z, .slice (some ⟨g, 0, none⟩) z z] 60))).alloc _).cell0 (World.cell?_alloc_new wr _ _ 2)) hF
      have HRQ : Hid (∀ q, Calls Try.prog 12 #[.pointer (some ⟨B.h, 0, none⟩), .int .i64 (y : Nat)] (w3.drewN q) fun e w'' => e = .returned (.int .i64 (z : Nat)) ∧ ∃ m, w'' = w3.drewN m) := by
        refine quiet_of fun q => ?_
        have := room_calls (HHP.out (w3.drewN q) (HG3.out.keeps.drewN q)) HWF.out (y : Int)
        rw [HRM.out] at this
        exact this
      clear hO hK hg hF hG e1 e2 e3 HI
      generalize wr.heap.size = p at *
      go_quiet ((go_at_call 12; exact HRQ.out _))
      have HK3 : ∀ q, Hid (Keeps (fun _ => False) w3 (w3.drewN q)) := fun q => (Keeps.refl _ w3).drewN q
      have K0 := Lib.hid k0
      have K1 := Lib.hid k1
      have K2 := Lib.hid k2
      go_wp2
      clear k0 k1 k2
      go_loopw [38] (fun j wx => ∃ u : Nat, u ≤ z ∧ j = .int .i64 u ∧ Hid (Keeps (fun _ => False) w3 wx)) (fun j _ => z - (intOf j).toNat)
      case atStart => exact ⟨0, Nat.zero_le _, rfl, HK3 _⟩
      case round =>
        obtain ⟨u, hu, rfl, hK⟩ := hrel
        have k0 := hK.out.cell0 K0.out
        have k1 := hK.out.cell0 K1.out
        have HKW : Hid (Keeps (fun _ => False) w wr) := HG3.out.keeps.trans hK.out (fun _ _ h => h)
        have HHW := Lib.hid (HHP.out wr HKW.out)
        by_cases huz : u < z
        · have du : decide (u < z) = true := decide_eq_true huz
          have e4 := HW3.out wr HKW.out u huz
          have hl := load_yes HHW.out HWF.out (y : Int) (u : Int) (by omega) (by rw [HRM.out]; omega)
          rw [show ((y : Int) + (u : Int)).toNat = y + u by omega] at hl
          have HLD := Lib.hid hl
          have dq : (H.words (y + u) == H.words (y + u)) = true := beq_self_eq_true _
          clear hl
          generalize H.words (y + u) = v at *
          go_wp2_with fail
          refine HLD.out.mono ?_
          rintro e w5 ⟨h1, hw5⟩
          have h1' : e = .returned (.tuple #[.int .i64 v, .bool true]) := h1
          clear h1
          subst h1'
          have HK5 : Hid (Keeps (fun _ => False) w3 w5) := by
            obtain ⟨q5, rfl⟩ := hw5
            exact hK.out.drewN q5
          clear hw5
          go_wp2
          go_roundw
          case rel => exact ⟨u + 1, by omega, by go_num, HK5⟩
          case measure => simp [intOf]; omega
        · obtain rfl : z = u := by omega
          have du : decide (z < z) = false := by simp
          have HLD := Lib.hid (load_no HHW.out HWF.out (y : Int) (z : Int) (by rw [HRM.out]; omega))
          go_wp2_with fail
          refine HLD.out.mono ?_
          rintro e w5 ⟨h1, hw5⟩
          have h1' : e = .returned (.tuple #[.int .i64 0, .bool false]) := h1
          clear h1
          subst h1'
          have HG5 : Hid (Gather w w5 (.slice (some ⟨gA, 0, none⟩) (k + 1) cA) (ofNats (H.blocks.take (k + 1)))) := by
            obtain ⟨q5, rfl⟩ := hw5
            exact HG3.out.keep (hK.out.drewN q5)
          clear hw5
          go_wp2
          go_roundw
          case rel => exact ⟨k + 1, by omega, by go_num, HG5⟩
          case measure => simp [intOf]; omega
    · obtain rfl : n = k := by omega
      have dk : decide (n < n) = false := by simp
      have hll := HLN.out n (Nat.le_refl _)
      have HG := hG
      rw [HAL.out] at HG hll
      have HBL := Lib.hid (blocks_calls (HHP.out wr HG.out.keeps) HWF.out)
      have HOL := Lib.hid (ofNats_length H.blocks)
      obtain ⟨av, cv, hav, -, -, hmd⟩ := HG.out.made
      have HMD := Lib.hid hmd
      rw [hll] at hav
      subst hav
      rw [← HOL.out, hll] at HBL
      have HLL := Lib.hid hll
      clear hmd hG hll
      go_wp2_with fail
      refine HBL.out.mono ?_
      rintro e w5 ⟨a5, c5, rfl, hm5⟩
      have HK5 : Hid (Keeps (fun _ => False) w w5) := HG.out.keeps.trans hm5.out.keeps (fun _ _ h => h)
      have HII := Lib.hid (ints6_yes w5 a5 av c5 cv (ofNats H.blocks) hm5.out.arg (HMD.out.arg.keep hm5.out.keeps) (by rw [HLL.out]; omega))
      rw [HLL.out] at HII
      have HSP := Lib.hid (spans_calls (HHP.out w5 HK5.out) HWF.out)
      have HRS := Lib.hid ((HR.out.keep0 HK5.out).rspans HWF.out)
      generalize H.spans = sp at *
      go_wp2_with fail
      refine HII.out.mono ?_
      rintro e w6 ⟨rfl, rfl⟩
      go_wp2_with fail
      refine HSP.out.mono ?_
      rintro e w6 ⟨rfl, rfl⟩
      go_wp2_with fail
      refine HRS.out.mono ?_
      rintro e w6 ⟨rfl, hk6⟩
      have HK6 : Hid (Keeps (fun _ => False) w w6) := HK5.out.trans hk6 (fun _ _ h => h)
      clear hk6
      go_wp2
      go_ret
      exact ⟨rfl, HK6.out⟩
end Go.Proofs.Ytchoioajalpfoaa
